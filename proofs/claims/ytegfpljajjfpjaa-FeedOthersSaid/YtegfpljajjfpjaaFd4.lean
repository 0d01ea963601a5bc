import Derived.Test.YtegfpljajjfpjaaFwT
import Derived.Test.YtegfpljajjfpjaaProg
import Derived.Test.YtegfpljajjfpjaaFd0
import Derived.Test.YtegfpljajjfpjaaFd1
import Derived.Test.YtegfpljajjfpjaaFd2
import Derived.Test.YtegfpljajjfpjaaFd3
set_option linter.unusedVariables false
set_option maxRecDepth 100000
set_option maxHeartbeats 8000000
namespace Fl
open Go Go.Proofs Fw
/- 42 flywheel/wrap.good -/
def wrap_good (a1 : Int) : Option Bool :=
  (if 1 ≤ a1 then some (decide (a1 ≤ 32)) else some false)
theorem wrap_good_ok {a1 : Int} {r : Bool} (hres : wrap_good a1 = some r) {w0 w : World} {F : List Asn} (hw : SH w0 w (F)) :
    Calls Try.prog 42 #[.int .i64 a1] w fun e w' => e = .returned (.bool r) ∧ SH w0 w' (F) := by
  refine fw_enter (n := 9) (bs := []) (env := [(0, I a1)]) (H := []) (F := F) Try.func42 rfl (by kernel_rfl) (by kernel_rfl) (by kernel_rfl) (hw.eq (by kernel_rfl)) ?_
  unfold wrap_good at hres
  refine rn_seq ?_
  refine rn_q [] [0] [(0, I a1)] [] (by kernel_rfl) trivial (fin_next ?_)
  refine rn_seq ?_
  refine rn_text ?_
  refine ro_q 3 [] [0, 5] [(0, I a1), (5, B (decide (1 ≤ a1)))] [] (by kernel_rfl) trivial ?_
  refine ro_split 5 (decide (1 ≤ a1)) (by kernel_rfl) (fun c2 => ?_) (fun c2 => ?_)
  · rw [if_pos (of_decide_eq_true c2)] at hres
    refine ro_q 4 [] [2] [(2, B (decide (a1 ≤ 32)))] [] (by kernel_rfl) trivial ?_
    refine ro_end (by kernel_rfl) (fin_next ?_)
    refine rn_ret ?_
    refine fin_ret [.bool (decide (a1 ≤ 32))] (by kernel_rfl) fun w' hw' => ?_
    have hq := Option.some.inj hres
    subst hq
    exact ⟨rfl, hw'.drop⟩
  · rw [if_neg (of_decide_eq_false c2)] at hres
    refine ro_q 4 [] [2] [(2, B false)] [] (by kernel_rfl) trivial ?_
    refine ro_end (by kernel_rfl) (fin_next ?_)
    refine rn_ret ?_
    refine fin_ret [.bool false] (by kernel_rfl) fun w' hw' => ?_
    have hq := Option.some.inj hres
    subst hq
    exact ⟨rfl, hw'.drop⟩
/- 43 flywheel/wrap.lower[int64] -/
def wrap_lower_int64 (a1 : Int) (a2 : Int) : Option Int :=
  (if a2 < 0 then none else
  some (bAnd .i64 a1 (w64 ((shL .i64 1 a2) - 1))))
theorem wrap_lower_int64_ok {a1 : Int} {a2 : Int} {r : Int} (hres : wrap_lower_int64 a1 a2 = some r) {w0 w : World} {F : List Asn} (hw : SH w0 w (F)) :
    Calls Try.prog 43 #[.int .i64 a1, .int .i64 a2] w fun e w' => e = .returned (.int .i64 r) ∧ SH w0 w' (F) := by
  refine fw_enter (n := 10) (bs := []) (env := [(0, I a1), (1, I a2)]) (H := []) (F := F) Try.func43 rfl (by kernel_rfl) (by kernel_rfl) (by kernel_rfl) (hw.eq (by kernel_rfl)) ?_
  unfold wrap_lower_int64 at hres
  refine rn_seq ?_
  refine rn_q [] [0, 1] [(0, I a1), (1, I a2)] [] (by kernel_rfl) trivial (fin_next ?_)
  refine rn_seq ?_
  have hy3 : ¬ a2 < 0 := by intro hz; rw [if_pos hz] at hres; cases hres
  rw [if_neg hy3] at hres
  refine rn_q [(2, I (shL .i64 1 a2))] [4] [(4, I (bAnd .i64 a1 (w64 ((shL .i64 1 a2) - 1))))] [(smShl .i64 1 .i64 a2, .int .i64 (shL .i64 1 a2))] (by kernel_rfl) ⟨ob_shl hy3, trivial⟩ (fin_next ?_)
  refine rn_ret ?_
  refine fin_ret [.int .i64 (bAnd .i64 a1 (w64 ((shL .i64 1 a2) - 1)))] (by kernel_rfl) fun w' hw' => ?_
  have hq := Option.some.inj hres
  subst hq
  exact ⟨rfl, hw'.drop⟩
/- 29 flywheel/wrap.Cut -/
def wrap_Cut (a1 : Int) (a2 : Int) : Option Int :=
  (wrap_good a2).bind fun y4 =>
  (if y4 = true then (wrap_lower_int64 a1 a2).bind fun y7 =>
  some y7 else some 0)
theorem wrap_Cut_ok {a1 : Int} {a2 : Int} {r : Int} (hres : wrap_Cut a1 a2 = some r) {w0 w : World} {F : List Asn} (hw : SH w0 w (F)) :
    Calls Try.prog 29 #[.int .i64 a1, .int .i64 a2] w fun e w' => e = .returned (.int .i64 r) ∧ SH w0 w' (F) := by
  refine fw_enter (n := 11) (bs := []) (env := [(0, I a1), (1, I a2)]) (H := []) (F := F) Try.func29 rfl (by kernel_rfl) (by kernel_rfl) (by kernel_rfl) (hw.eq (by kernel_rfl)) ?_
  unfold wrap_Cut at hres
  refine rn_seq ?_
  refine rn_q [] [0, 1] [(0, I a1), (1, I a2)] [] (by kernel_rfl) trivial (fin_next ?_)
  refine rn_seq ?_
  refine rn_seq ?_
  refine rn_text ?_
  refine ro_q 1 [] [0, 1, 5] [(0, I a1), (1, I a2), (5, I a2)] [] (by kernel_rfl) trivial ?_
  refine bind_elim hres fun y4 hy4 hres => ?_
  refine ro_op (by kernel_rfl) (op_call (f := 42) (xs := #[(.tmp 5)]) (ats := #[3]) (d := (some 6)) (args := #[.int .i64 a2]) (by kernel_rfl) (by kernel_rfl) (by kernel_rfl) (by kernel_rfl) fun w hw => (wrap_good_ok hy4 hw).mono ?_)
  rintro _ w1 ⟨rfl, hw1⟩
  refine ⟨_, [], [], _, rfl, hw1.eq (by kernel_rfl), rfl, mt_same, ro_fin ?_⟩
  refine ro_q 1 [] [0, 1, 7] [(0, I a1), (1, I a2), (7, B (!y4))] [] (by kernel_rfl) trivial ?_
  refine ro_end (by kernel_rfl) (fin_next ?_)
  refine rn_cond (!y4) (by kernel_rfl) (fun c5 => ?_) (fun c5 => ?_)
  · rw [if_neg (nt_of_f (nb_t c5))] at hres
    refine rn_seq ?_
    refine rn_q [] [4] [(4, I 0)] [] (by kernel_rfl) trivial (fin_next ?_)
    refine rn_ret (fin_then_ret ?_)
    refine fin_ret [.int .i64 0] (by kernel_rfl) fun w' hw' => ?_
    have hq := Option.some.inj hres
    subst hq
    exact ⟨rfl, hw'.drop⟩
  · rw [if_pos ((nb_f c5))] at hres
    refine rn_skip (fin_next ?_)
    refine rn_seq ?_
    refine rn_text ?_
    refine ro_q 2 [] [8, 9] [(8, I a1), (9, I a2)] [] (by kernel_rfl) trivial ?_
    refine bind_elim hres fun y7 hy7 hres => ?_
    refine ro_op (by kernel_rfl) (op_call (f := 43) (xs := #[(.tmp 8), (.tmp 9)]) (ats := #[2, 3]) (d := (some 10)) (args := #[.int .i64 a1, .int .i64 a2]) (by kernel_rfl) (by kernel_rfl) (by kernel_rfl) (by kernel_rfl) fun w hw => (wrap_lower_int64_ok hy7 hw).mono ?_)
    rintro _ w1 ⟨rfl, hw1⟩
    refine ⟨_, [], [], _, rfl, hw1.eq (by kernel_rfl), rfl, mt_same, ro_fin ?_⟩
    refine ro_q 1 [] [4] [(4, I y7)] [] (by kernel_rfl) trivial ?_
    refine ro_end (by kernel_rfl) (fin_next ?_)
    refine rn_ret ?_
    refine fin_ret [.int .i64 y7] (by kernel_rfl) fun w' hw' => ?_
    have hq := Option.some.inj hres
    subst hq
    exact ⟨rfl, hw'.drop⟩
/- 45 flywheel/wrap.lower[int] -/
def wrap_lower_int (a1 : Int) (a2 : Int) : Option Int :=
  (if a2 < 0 then none else
  some (bAnd .i64 a1 (w64 ((shL .i64 1 a2) - 1))))
theorem wrap_lower_int_ok {a1 : Int} {a2 : Int} {r : Int} (hres : wrap_lower_int a1 a2 = some r) {w0 w : World} {F : List Asn} (hw : SH w0 w (F)) :
    Calls Try.prog 45 #[.int .i64 a1, .int .i64 a2] w fun e w' => e = .returned (.int .i64 r) ∧ SH w0 w' (F) := by
  refine fw_enter (n := 10) (bs := []) (env := [(0, I a1), (1, I a2)]) (H := []) (F := F) Try.func45 rfl (by kernel_rfl) (by kernel_rfl) (by kernel_rfl) (hw.eq (by kernel_rfl)) ?_
  unfold wrap_lower_int at hres
  refine rn_seq ?_
  refine rn_q [] [0, 1] [(0, I a1), (1, I a2)] [] (by kernel_rfl) trivial (fin_next ?_)
  refine rn_seq ?_
  have hy3 : ¬ a2 < 0 := by intro hz; rw [if_pos hz] at hres; cases hres
  rw [if_neg hy3] at hres
  refine rn_q [(2, I (shL .i64 1 a2))] [4] [(4, I (bAnd .i64 a1 (w64 ((shL .i64 1 a2) - 1))))] [(smShl .i64 1 .i64 a2, .int .i64 (shL .i64 1 a2))] (by kernel_rfl) ⟨ob_shl hy3, trivial⟩ (fin_next ?_)
  refine rn_ret ?_
  refine fin_ret [.int .i64 (bAnd .i64 a1 (w64 ((shL .i64 1 a2) - 1)))] (by kernel_rfl) fun w' hw' => ?_
  have hq := Option.some.inj hres
  subst hq
  exact ⟨rfl, hw'.drop⟩
/- 46 flywheel/wrap.After -/
def wrap_After.j317 (a1 : Int) (a2 : Int) (a3 : Int) : Option Bool :=
  (wrap_lower_int (w64 (a1 - a2)) a3).bind fun y314 =>
  (if 1 ≤ y314 then (if (w64 (a3 - 1)) < 0 then none else
  some (decide (y314 < (shL .i64 1 (w64 (a3 - 1)))))) else some false)
def wrap_After (a1 : Int) (a2 : Int) (a3 : Int) : Option Bool :=
  (wrap_good a3).bind fun y5 =>
  (if y5 = true then (if a1 < 0 then some false else (if a2 < 0 then some false else (if a3 < 0 then none else
  (if (shL .i64 1 a3) ≤ a1 then some false else (if a3 < 0 then none else
  (if (shL .i64 1 a3) ≤ a2 then some false else wrap_After.j317 a1 a2 a3)))))) else some false)
theorem wrap_After_ok {a1 : Int} {a2 : Int} {a3 : Int} {r : Bool} (hres : wrap_After a1 a2 a3 = some r) {w0 w : World} {F : List Asn} (hw : SH w0 w (F)) :
    Calls Try.prog 46 #[.int .i64 a1, .int .i64 a2, .int .i64 a3] w fun e w' => e = .returned (.bool r) ∧ SH w0 w' (F) := by
  refine fw_enter (n := 45) (bs := []) (env := [(0, I a1), (1, I a2), (2, I a3)]) (H := []) (F := F) Try.func46 rfl (by kernel_rfl) (by kernel_rfl) (by kernel_rfl) (hw.eq (by kernel_rfl)) ?_
  unfold wrap_After at hres
  refine rn_seq ?_
  refine rn_q [] [0, 1, 2] [(0, I a1), (1, I a2), (2, I a3)] [] (by kernel_rfl) trivial (fin_next ?_)
  refine rn_join (V := Unit) (J := fun v => wrap_After.j317 a1 a2 a3 = some r) (sv := fun v => ⟨[], [(0, I a1), (1, I a2), (2, I a3)], []⟩) ?_ ?_
  · refine rn_seq ?_
    refine rn_text ?_
    refine ro_q 1 [] [0, 1, 2, 8] [(0, I a1), (1, I a2), (2, I a3), (8, I a3)] [] (by kernel_rfl) trivial ?_
    refine bind_elim hres fun y5 hy5 hres => ?_
    refine ro_op (by kernel_rfl) (op_call (f := 42) (xs := #[(.tmp 8)]) (ats := #[3]) (d := (some 9)) (args := #[.int .i64 a3]) (by kernel_rfl) (by kernel_rfl) (by kernel_rfl) (by kernel_rfl) fun w hw => (wrap_good_ok hy5 hw).mono ?_)
    rintro _ w1 ⟨rfl, hw1⟩
    refine ⟨_, [], [], _, rfl, hw1.eq (by kernel_rfl), rfl, mt_same, ro_fin ?_⟩
    refine ro_q 2 [] [0, 1, 2, 11] [(0, I a1), (1, I a2), (2, I a3), (11, B (!y5))] [] (by kernel_rfl) trivial ?_
    refine ro_split 11 (!y5) (by kernel_rfl) (fun c6 => ?_) (fun c6 => ?_)
    · rw [if_neg (nt_of_f (nb_t c6))] at hres
      refine ro_q 19 [] [0, 1, 2, 30] [(0, I a1), (1, I a2), (2, I a3), (30, B true)] [] (by kernel_rfl) trivial ?_
      refine ro_end (by kernel_rfl) (fin_next ?_)
      refine rn_cond_t (by kernel_rfl) ?_
      refine rn_seq ?_
      refine rn_q [] [6] [(6, B false)] [] (by kernel_rfl) trivial (fin_next ?_)
      refine rn_ret (fin_then_ret ?_)
      refine fin_ret [.bool false] (by kernel_rfl) fun w' hw' => ?_
      have hq := Option.some.inj hres
      subst hq
      exact ⟨rfl, hw'.drop⟩
    · rw [if_pos ((nb_f c6))] at hres
      refine ro_q 4 [] [0, 1, 2, 15] [(0, I a1), (1, I a2), (2, I a3), (15, B (decide (a1 < 0)))] [] (by kernel_rfl) trivial ?_
      refine ro_split 15 (decide (a1 < 0)) (by kernel_rfl) (fun c7 => ?_) (fun c7 => ?_)
      · rw [if_pos (of_decide_eq_true c7)] at hres
        refine ro_q 15 [] [0, 1, 2, 30] [(0, I a1), (1, I a2), (2, I a3), (30, B true)] [] (by kernel_rfl) trivial ?_
        refine ro_end (by kernel_rfl) (fin_next ?_)
        refine rn_cond_t (by kernel_rfl) ?_
        refine rn_seq ?_
        refine rn_q [] [6] [(6, B false)] [] (by kernel_rfl) trivial (fin_next ?_)
        refine rn_ret (fin_then_ret ?_)
        refine fin_ret [.bool false] (by kernel_rfl) fun w' hw' => ?_
        have hq := Option.some.inj hres
        subst hq
        exact ⟨rfl, hw'.drop⟩
      · rw [if_neg (of_decide_eq_false c7)] at hres
        refine ro_q 4 [] [0, 1, 2, 19] [(0, I a1), (1, I a2), (2, I a3), (19, B (decide (a2 < 0)))] [] (by kernel_rfl) trivial ?_
        refine ro_split 19 (decide (a2 < 0)) (by kernel_rfl) (fun c8 => ?_) (fun c8 => ?_)
        · rw [if_pos (of_decide_eq_true c8)] at hres
          refine ro_q 11 [] [0, 1, 2, 30] [(0, I a1), (1, I a2), (2, I a3), (30, B true)] [] (by kernel_rfl) trivial ?_
          refine ro_end (by kernel_rfl) (fin_next ?_)
          refine rn_cond_t (by kernel_rfl) ?_
          refine rn_seq ?_
          refine rn_q [] [6] [(6, B false)] [] (by kernel_rfl) trivial (fin_next ?_)
          refine rn_ret (fin_then_ret ?_)
          refine fin_ret [.bool false] (by kernel_rfl) fun w' hw' => ?_
          have hq := Option.some.inj hres
          subst hq
          exact ⟨rfl, hw'.drop⟩
        · rw [if_neg (of_decide_eq_false c8)] at hres
          have hy9 : ¬ a3 < 0 := by intro hz; rw [if_pos hz] at hres; cases hres
          rw [if_neg hy9] at hres
          refine ro_q 6 [(14, I (shL .i64 1 a3))] [0, 1, 2, 25] [(0, I a1), (1, I a2), (2, I a3), (25, B (decide ((shL .i64 1 a3) ≤ a1)))] [(smShl .i64 1 .i64 a3, .int .i64 (shL .i64 1 a3))] (by kernel_rfl) ⟨ob_shl hy9, trivial⟩ ?_
          refine ro_split 25 (decide ((shL .i64 1 a3) ≤ a1)) (by kernel_rfl) (fun c10 => ?_) (fun c10 => ?_)
          · rw [if_pos (of_decide_eq_true c10)] at hres
            refine ro_q 5 [] [0, 1, 2, 30] [(0, I a1), (1, I a2), (2, I a3), (30, B true)] [] (by kernel_rfl) trivial ?_
            refine ro_end (by kernel_rfl) (fin_next ?_)
            refine rn_cond_t (by kernel_rfl) ?_
            refine rn_seq ?_
            refine rn_q [] [6] [(6, B false)] [] (by kernel_rfl) trivial (fin_next ?_)
            refine rn_ret (fin_then_ret ?_)
            refine fin_ret [.bool false] (by kernel_rfl) fun w' hw' => ?_
            have hq := Option.some.inj hres
            subst hq
            exact ⟨rfl, hw'.drop⟩
          · rw [if_neg (of_decide_eq_false c10)] at hres
            have hy11 : ¬ a3 < 0 := by intro hz; rw [if_pos hz] at hres; cases hres
            rw [if_neg hy11] at hres
            refine ro_q 5 [(20, I (shL .i64 1 a3))] [0, 1, 2, 30] [(0, I a1), (1, I a2), (2, I a3), (30, B (decide ((shL .i64 1 a3) ≤ a2)))] [(smShl .i64 1 .i64 a3, .int .i64 (shL .i64 1 a3))] (by kernel_rfl) ⟨ob_shl hy11, trivial⟩ ?_
            refine ro_end (by kernel_rfl) (fin_next ?_)
            refine rn_cond (decide ((shL .i64 1 a3) ≤ a2)) (by kernel_rfl) (fun c12 => ?_) (fun c12 => ?_)
            · rw [if_pos (of_decide_eq_true c12)] at hres
              refine rn_seq ?_
              refine rn_q [] [6] [(6, B false)] [] (by kernel_rfl) trivial (fin_next ?_)
              refine rn_ret (fin_then_ret ?_)
              refine fin_ret [.bool false] (by kernel_rfl) fun w' hw' => ?_
              have hq := Option.some.inj hres
              subst hq
              exact ⟨rfl, hw'.drop⟩
            · rw [if_neg (of_decide_eq_false c12)] at hres
              refine rn_skip (fin_then ?_)
              refine fin_join () hres [] [] (by kernel_rfl) (by kernel_rfl) (by kernel_rfl)
  · rintro ⟨⟩ hres
    unfold wrap_After.j317 at hres
    refine rn_seq ?_
    refine rn_text ?_
    refine ro_q 4 [] [2, 33, 34] [(2, I a3), (33, I (w64 (a1 - a2))), (34, I a3)] [] (by kernel_rfl) trivial ?_
    refine bind_elim hres fun y314 hy314 hres => ?_
    refine ro_op (by kernel_rfl) (op_call (f := 45) (xs := #[(.tmp 33), (.tmp 34)]) (ats := #[3, 3]) (d := (some 35)) (args := #[.int .i64 (w64 (a1 - a2)), .int .i64 a3]) (by kernel_rfl) (by kernel_rfl) (by kernel_rfl) (by kernel_rfl) fun w hw => (wrap_lower_int_ok hy314 hw).mono ?_)
    rintro _ w1 ⟨rfl, hw1⟩
    refine ⟨_, [], [], _, rfl, hw1.eq (by kernel_rfl), rfl, mt_same, ro_fin ?_⟩
    refine ro_q 1 [] [2, 7] [(2, I a3), (7, I y314)] [] (by kernel_rfl) trivial ?_
    refine ro_end (by kernel_rfl) (fin_next ?_)
    refine rn_seq ?_
    refine rn_text ?_
    refine ro_q 3 [] [2, 7, 38] [(2, I a3), (7, I y314), (38, B (decide (1 ≤ y314)))] [] (by kernel_rfl) trivial ?_
    refine ro_split 38 (decide (1 ≤ y314)) (by kernel_rfl) (fun c315 => ?_) (fun c315 => ?_)
    · rw [if_pos (of_decide_eq_true c315)] at hres
      have hy316 : ¬ (w64 (a3 - 1)) < 0 := by intro hz; rw [if_pos hz] at hres; cases hres
      rw [if_neg hy316] at hres
      refine ro_q 7 [(6, I (shL .i64 1 (w64 (a3 - 1))))] [6] [(6, B (decide (y314 < (shL .i64 1 (w64 (a3 - 1))))))] [(smShl .i64 1 .i64 (w64 (a3 - 1)), .int .i64 (shL .i64 1 (w64 (a3 - 1))))] (by kernel_rfl) ⟨ob_shl hy316, trivial⟩ ?_
      refine ro_end (by kernel_rfl) (fin_next ?_)
      refine rn_ret ?_
      refine fin_ret [.bool (decide (y314 < (shL .i64 1 (w64 (a3 - 1)))))] (by kernel_rfl) fun w' hw' => ?_
      have hq := Option.some.inj hres
      subst hq
      exact ⟨rfl, hw'.drop⟩
    · rw [if_neg (of_decide_eq_false c315)] at hres
      refine ro_q 7 [] [6] [(6, B false)] [] (by kernel_rfl) trivial ?_
      refine ro_end (by kernel_rfl) (fin_next ?_)
      refine rn_ret ?_
      refine fin_ret [.bool false] (by kernel_rfl) fun w' hw' => ?_
      have hq := Option.some.inj hres
      subst hq
      exact ⟨rfl, hw'.drop⟩
/- 40 flywheel/nack.fault -/
def nack_fault.l19 (a1 : List Int) : Nat → Int → Option Int
  | 0, _ => none
  | k + 1, x4 =>
    (if x4 < (a1.length : Int) then (idx a1 x4).bind fun y21 =>
  (if y21 < 0 then some 110 else (if 65535 < y21 then some 110 else (if 0 < x4 then (idx a1 (w64 (x4 - 1))).bind fun y25 =>
  (wrap_After y21 y25 16).bind fun y27 =>
  (if y27 = true then (idx a1 0).bind fun y29 =>
  (wrap_After y21 y29 16).bind fun y31 =>
  (if y31 = true then nack_fault.l19 a1 k (w64 (x4 + 1)) else some 110) else some 110) else nack_fault.l19 a1 k (w64 (x4 + 1))))) else (if (a1.length : Int) = 0 then some 110 else some 0))
def nack_fault (a1 : List Int) : Option Int :=
  (if 4096 < (a1.length : Int) then some 3 else nack_fault.l19 a1 FUEL 0)
theorem nack_fault_ok {a1 : List Int} {A2 : Option Addr} {k2 : Nat} {r : Int} (hres : nack_fault a1 = some r) {w0 w : World} {F : List Asn} (hA2 : RowT w0 F (eI .i64) A2 k2 a1) (hw : SH w0 w (F)) :
    Calls Try.prog 40 #[.slice A2 a1.length k2] w fun e w' => e = .returned (.int .i64 r) ∧ SH w0 w' (F) := by
  refine fw_enter (n := 47) (bs := []) (env := [(0, .v (.slice A2 a1.length k2))]) (H := []) (F := F) Try.func40 rfl (by kernel_rfl) (by kernel_rfl) (by kernel_rfl) (hw.eq (by kernel_rfl)) ?_
  unfold nack_fault at hres
  refine rn_seq ?_
  refine rn_q [] [0] [(0, .v (.slice A2 a1.length k2))] [] (by kernel_rfl) trivial (fin_next ?_)
  refine rn_seq ?_
  refine rn_seq ?_
  refine rn_q [] [0, 7] [(0, .v (.slice A2 a1.length k2)), (7, B (decide (4096 < (a1.length : Int))))] [] (by kernel_rfl) trivial (fin_next ?_)
  refine rn_cond (decide (4096 < (a1.length : Int))) (by kernel_rfl) (fun c3 => ?_) (fun c3 => ?_)
  · rw [if_pos (of_decide_eq_true c3)] at hres
    refine rn_seq ?_
    refine rn_q [] [2] [(2, I 3)] [] (by kernel_rfl) trivial (fin_next ?_)
    refine rn_ret (fin_then_ret ?_)
    refine fin_ret [.int .i64 3] (by kernel_rfl) fun w' hw' => ?_
    have hq := Option.some.inj hres
    subst hq
    exact ⟨rfl, hw'.drop⟩
  · rw [if_neg (of_decide_eq_false c3)] at hres
    refine rn_skip (fin_next ?_)
    refine rn_seq ?_
    refine rn_seq ?_
    refine rn_q [] [0, 8, 9, 10] [(0, .v (.slice A2 a1.length k2)), (8, .v (.slice A2 a1.length k2)), (9, I (a1.length : Int)), (10, I 0)] [] (by kernel_rfl) trivial (fin_next ?_)
    refine rn_block ?_
    refine rn_loop (V := Int) (J := fun k v => nack_fault.l19 a1 k v = some r) (sv := fun v => ⟨[], [(0, .v (.slice A2 a1.length k2)), (8, .v (.slice A2 a1.length k2)), (9, I (a1.length : Int)), (10, I v)], []⟩) FUEL 0 hres (fun a w hs => hs.conv [] (by kernel_rfl) (by kernel_rfl) ⟨[], by kernel_rfl⟩) ?_
    rintro k19 x4 hres
    rcases k19 with _ | k19
    · rw [nack_fault.l19] at hres; cases hres
    · rw [nack_fault.l19] at hres
      refine rn_seq ?_
      refine rn_q [] [0, 8, 9, 10, 11] [(0, .v (.slice A2 a1.length k2)), (8, .v (.slice A2 a1.length k2)), (9, I (a1.length : Int)), (10, I x4), (11, B (decide (x4 < (a1.length : Int))))] [] (by kernel_rfl) trivial (fin_next ?_)
      refine rn_seq ?_
      refine rn_cond (decide (x4 < (a1.length : Int))) (by kernel_rfl) (fun c20 => ?_) (fun c20 => ?_)
      · rw [if_pos (of_decide_eq_true c20)] at hres
        refine rn_skip (fin_next ?_)
        refine rn_seq ?_
        refine rn_block ?_
        refine rn_seq ?_
        refine bind_elim hres fun y21 hy21 hres => ?_
        refine rn_q [(1, .v (elP A2 (x4.toNat * 1 + 0))), (2, I y21)] [0, 3, 4, 8, 9, 10] [(0, .v (.slice A2 a1.length k2)), (3, I x4), (4, I y21), (8, .v (.slice A2 a1.length k2)), (9, I (a1.length : Int)), (10, I x4)] [(smIa 31 (.slice A2 a1.length k2) (.int .i64 x4), elP A2 (x4.toNat * 1 + 0)), (smLd 3 (elP A2 (x4.toNat * 1 + 0)), .int .i64 y21)] (by kernel_rfl) ⟨ob_ia (E := (eI .i64)) (U := 3) (i := x4) (sz := 1) (by kernel_rfl) (by kernel_rfl) (by kernel_rfl) hA2.app hy21, ⟨ob_ld1 (E := (eI .i64)) (i := x4) (sz := 1) (o := 0) (d := (.int .i64)) (by kernel_rfl) (by kernel_rfl) (by kernel_rfl) (by kernel_rfl) hA2.app hy21, trivial⟩⟩ (fin_next ?_)
        refine rn_seq ?_
        refine rn_text ?_
        refine ro_q 3 [] [0, 3, 4, 8, 9, 10, 17] [(0, .v (.slice A2 a1.length k2)), (3, I x4), (4, I y21), (8, .v (.slice A2 a1.length k2)), (9, I (a1.length : Int)), (10, I x4), (17, B (decide (y21 < 0)))] [] (by kernel_rfl) trivial ?_
        refine ro_split 17 (decide (y21 < 0)) (by kernel_rfl) (fun c22 => ?_) (fun c22 => ?_)
        · rw [if_pos (of_decide_eq_true c22)] at hres
          refine ro_q 25 [] [0, 8, 9, 10, 42] [(0, .v (.slice A2 a1.length k2)), (8, .v (.slice A2 a1.length k2)), (9, I (a1.length : Int)), (10, I x4), (42, B true)] [] (by kernel_rfl) trivial ?_
          refine ro_end (by kernel_rfl) (fin_next ?_)
          refine rn_cond_t (by kernel_rfl) ?_
          refine rn_seq ?_
          refine rn_q [] [2] [(2, I 110)] [] (by kernel_rfl) trivial (fin_next ?_)
          refine rn_ret (fin_block_ret (fin_then_ret (fin_then_ret (fin_block_ret (fin_then_ret ?_)))))
          refine fin_ret [.int .i64 110] (by kernel_rfl) fun w' hw' => ?_
          have hq := Option.some.inj hres
          subst hq
          exact ⟨rfl, hw'.drop⟩
        · rw [if_neg (of_decide_eq_false c22)] at hres
          refine ro_q 4 [] [0, 3, 4, 8, 9, 10, 21] [(0, .v (.slice A2 a1.length k2)), (3, I x4), (4, I y21), (8, .v (.slice A2 a1.length k2)), (9, I (a1.length : Int)), (10, I x4), (21, B (decide (65535 < y21)))] [] (by kernel_rfl) trivial ?_
          refine ro_split 21 (decide (65535 < y21)) (by kernel_rfl) (fun c23 => ?_) (fun c23 => ?_)
          · rw [if_pos (of_decide_eq_true c23)] at hres
            refine ro_q 21 [] [0, 8, 9, 10, 42] [(0, .v (.slice A2 a1.length k2)), (8, .v (.slice A2 a1.length k2)), (9, I (a1.length : Int)), (10, I x4), (42, B true)] [] (by kernel_rfl) trivial ?_
            refine ro_end (by kernel_rfl) (fin_next ?_)
            refine rn_cond_t (by kernel_rfl) ?_
            refine rn_seq ?_
            refine rn_q [] [2] [(2, I 110)] [] (by kernel_rfl) trivial (fin_next ?_)
            refine rn_ret (fin_block_ret (fin_then_ret (fin_then_ret (fin_block_ret (fin_then_ret ?_)))))
            refine fin_ret [.int .i64 110] (by kernel_rfl) fun w' hw' => ?_
            have hq := Option.some.inj hres
            subst hq
            exact ⟨rfl, hw'.drop⟩
          · rw [if_neg (of_decide_eq_false c23)] at hres
            refine ro_q 3 [] [0, 3, 4, 8, 9, 10, 21, 24] [(0, .v (.slice A2 a1.length k2)), (3, I x4), (4, I y21), (8, .v (.slice A2 a1.length k2)), (9, I (a1.length : Int)), (10, I x4), (21, B false), (24, B (decide (0 < x4)))] [] (by kernel_rfl) trivial ?_
            refine ro_split 24 (decide (0 < x4)) (by kernel_rfl) (fun c24 => ?_) (fun c24 => ?_)
            · rw [if_pos (of_decide_eq_true c24)] at hres
              refine bind_elim hres fun y25 hy25 hres => ?_
              refine ro_q 6 [(14, .v (elP A2 ((w64 (x4 - 1)).toNat * 1 + 0))), (15, I y25)] [0, 4, 8, 9, 10, 21, 24, 25, 30] [(0, .v (.slice A2 a1.length k2)), (4, I y21), (8, .v (.slice A2 a1.length k2)), (9, I (a1.length : Int)), (10, I x4), (21, B false), (24, B true), (25, I y21), (30, I y25)] [(smIa 31 (.slice A2 a1.length k2) (.int .i64 (w64 (x4 - 1))), elP A2 ((w64 (x4 - 1)).toNat * 1 + 0)), (smLd 3 (elP A2 ((w64 (x4 - 1)).toNat * 1 + 0)), .int .i64 y25)] (by kernel_rfl) ⟨ob_ia (E := (eI .i64)) (U := 3) (i := (w64 (x4 - 1))) (sz := 1) (by kernel_rfl) (by kernel_rfl) (by kernel_rfl) hA2.app hy25, ⟨ob_ld1 (E := (eI .i64)) (i := (w64 (x4 - 1))) (sz := 1) (o := 0) (d := (.int .i64)) (by kernel_rfl) (by kernel_rfl) (by kernel_rfl) (by kernel_rfl) hA2.app hy25, trivial⟩⟩ ?_
              refine bind_elim hres fun y27 hy27 hres => ?_
              refine ro_op (by kernel_rfl) (op_call (f := 46) (xs := #[(.tmp 25), (.tmp 30), (.const (.int .i64 16))]) (ats := #[3, 3, 3]) (d := (some 31)) (args := #[.int .i64 y21, .int .i64 y25, .int .i64 16]) (by kernel_rfl) (by kernel_rfl) (by kernel_rfl) (by kernel_rfl) fun w hw => (wrap_After_ok hy27 hw).mono ?_)
              rintro _ w1 ⟨rfl, hw1⟩
              refine ⟨_, [], [], _, rfl, hw1.eq (by kernel_rfl), rfl, mt_same, ro_fin ?_⟩
              refine ro_q 2 [] [0, 4, 8, 9, 10, 21, 24, 33] [(0, .v (.slice A2 a1.length k2)), (4, I y21), (8, .v (.slice A2 a1.length k2)), (9, I (a1.length : Int)), (10, I x4), (21, B false), (24, B true), (33, B (!y27))] [] (by kernel_rfl) trivial ?_
              refine ro_split 33 (!y27) (by kernel_rfl) (fun c28 => ?_) (fun c28 => ?_)
              · rw [if_neg (nt_of_f (nb_t c28))] at hres
                refine ro_q 9 [] [0, 8, 9, 10, 42] [(0, .v (.slice A2 a1.length k2)), (8, .v (.slice A2 a1.length k2)), (9, I (a1.length : Int)), (10, I x4), (42, B true)] [] (by kernel_rfl) trivial ?_
                refine ro_end (by kernel_rfl) (fin_next ?_)
                refine rn_cond_t (by kernel_rfl) ?_
                refine rn_seq ?_
                refine rn_q [] [2] [(2, I 110)] [] (by kernel_rfl) trivial (fin_next ?_)
                refine rn_ret (fin_block_ret (fin_then_ret (fin_then_ret (fin_block_ret (fin_then_ret ?_)))))
                refine fin_ret [.int .i64 110] (by kernel_rfl) fun w' hw' => ?_
                have hq := Option.some.inj hres
                subst hq
                exact ⟨rfl, hw'.drop⟩
              · rw [if_pos ((nb_f c28))] at hres
                refine bind_elim hres fun y29 hy29 hres => ?_
                refine ro_q 4 [(21, .v (elP A2 ((0 : Int).toNat * 1 + 0))), (22, I y29)] [0, 8, 9, 10, 21, 24, 33, 34, 37] [(0, .v (.slice A2 a1.length k2)), (8, .v (.slice A2 a1.length k2)), (9, I (a1.length : Int)), (10, I x4), (21, B false), (24, B true), (33, B false), (34, I y21), (37, I y29)] [(smIa 31 (.slice A2 a1.length k2) (.int .i64 0), elP A2 ((0 : Int).toNat * 1 + 0)), (smLd 3 (elP A2 ((0 : Int).toNat * 1 + 0)), .int .i64 y29)] (by kernel_rfl) ⟨ob_ia (E := (eI .i64)) (U := 3) (i := (0 : Int)) (sz := 1) (by kernel_rfl) (by kernel_rfl) (by kernel_rfl) hA2.app hy29, ⟨ob_ld1 (E := (eI .i64)) (i := (0 : Int)) (sz := 1) (o := 0) (d := (.int .i64)) (by kernel_rfl) (by kernel_rfl) (by kernel_rfl) (by kernel_rfl) hA2.app hy29, trivial⟩⟩ ?_
                refine bind_elim hres fun y31 hy31 hres => ?_
                refine ro_op (by kernel_rfl) (op_call (f := 46) (xs := #[(.tmp 34), (.tmp 37), (.const (.int .i64 16))]) (ats := #[3, 3, 3]) (d := (some 38)) (args := #[.int .i64 y21, .int .i64 y29, .int .i64 16]) (by kernel_rfl) (by kernel_rfl) (by kernel_rfl) (by kernel_rfl) fun w hw => (wrap_After_ok hy31 hw).mono ?_)
                rintro _ w1 ⟨rfl, hw1⟩
                refine ⟨_, [], [], _, rfl, hw1.eq (by kernel_rfl), rfl, mt_same, ro_fin ?_⟩
                refine ro_q 4 [] [0, 8, 9, 10, 42] [(0, .v (.slice A2 a1.length k2)), (8, .v (.slice A2 a1.length k2)), (9, I (a1.length : Int)), (10, I x4), (42, B (!y31))] [] (by kernel_rfl) trivial ?_
                refine ro_end (by kernel_rfl) (fin_next ?_)
                refine rn_cond (!y31) (by kernel_rfl) (fun c32 => ?_) (fun c32 => ?_)
                · rw [if_neg (nt_of_f (nb_t c32))] at hres
                  refine rn_seq ?_
                  refine rn_q [] [2] [(2, I 110)] [] (by kernel_rfl) trivial (fin_next ?_)
                  refine rn_ret (fin_block_ret (fin_then_ret (fin_then_ret (fin_block_ret (fin_then_ret ?_)))))
                  refine fin_ret [.int .i64 110] (by kernel_rfl) fun w' hw' => ?_
                  have hq := Option.some.inj hres
                  subst hq
                  exact ⟨rfl, hw'.drop⟩
                · rw [if_pos ((nb_f c32))] at hres
                  refine rn_skip (fin_block (fin_next ?_))
                  refine rn_q [] [0, 8, 9, 10] [(0, .v (.slice A2 a1.length k2)), (8, .v (.slice A2 a1.length k2)), (9, I (a1.length : Int)), (10, I (w64 (x4 + 1)))] [] (by kernel_rfl) trivial (fin_then ?_)
                  refine fin_loop (w64 (x4 + 1)) hres [] [] (by kernel_rfl) (by kernel_rfl) (by kernel_rfl)
            · rw [if_neg (of_decide_eq_false c24)] at hres
              refine ro_q 18 [] [0, 8, 9, 10, 42] [(0, .v (.slice A2 a1.length k2)), (8, .v (.slice A2 a1.length k2)), (9, I (a1.length : Int)), (10, I x4), (42, B false)] [] (by kernel_rfl) trivial ?_
              refine ro_end (by kernel_rfl) (fin_next ?_)
              refine rn_cond_f (by kernel_rfl) ?_
              refine rn_skip (fin_block (fin_next ?_))
              refine rn_q [] [0, 8, 9, 10] [(0, .v (.slice A2 a1.length k2)), (8, .v (.slice A2 a1.length k2)), (9, I (a1.length : Int)), (10, I (w64 (x4 + 1)))] [] (by kernel_rfl) trivial (fin_then ?_)
              refine fin_loop (w64 (x4 + 1)) hres [] [] (by kernel_rfl) (by kernel_rfl) (by kernel_rfl)
      · rw [if_neg (of_decide_eq_false c20)] at hres
        refine rn_exit (fin_then_exit (fin_then_exit (fin_block_exit (fin_next ?_))))
        refine rn_seq ?_
        refine rn_seq ?_
        refine rn_q [] [46] [(46, B ((a1.length : Int) == 0))] [] (by kernel_rfl) trivial (fin_next ?_)
        refine rn_cond ((a1.length : Int) == 0) (by kernel_rfl) (fun c33 => ?_) (fun c33 => ?_)
        · rw [if_pos (eq_t c33)] at hres
          refine rn_seq ?_
          refine rn_q [] [2] [(2, I 110)] [] (by kernel_rfl) trivial (fin_next ?_)
          refine rn_ret (fin_then_ret ?_)
          refine fin_ret [.int .i64 110] (by kernel_rfl) fun w' hw' => ?_
          have hq := Option.some.inj hres
          subst hq
          exact ⟨rfl, hw'.drop⟩
        · rw [if_neg (eq_f c33)] at hres
          refine rn_skip (fin_next ?_)
          refine rn_seq ?_
          refine rn_q [] [2] [(2, I 0)] [] (by kernel_rfl) trivial (fin_next ?_)
          refine rn_ret ?_
          refine fin_ret [.int .i64 0] (by kernel_rfl) fun w' hw' => ?_
          have hq := Option.some.inj hres
          subst hq
          exact ⟨rfl, hw'.drop⟩
structure S_api_Nack where
  Sender : Int
  Media : Int
  Lost : List Int
/- 27 flywheel/nack.Decode -/
def nack_Decode.j2875 (r1 : Int → (List Int) → Option (S_api_Nack × Int)) (r2 : (List Int) → S_bits_Reader → Option (S_api_Nack × Int)) (y1934 : Int × S_bits_Reader) (x2250 : Int) (j2872 : List Int) : Option (S_api_Nack × Int) :=
  (if (w64 (x2250 + 1)) < 16 then r1 (w64 (x2250 + 1)) j2872 else r2 j2872 y1934.2)
def nack_Decode.l2564 (r1 : (List Int) → S_bits_Reader → Option (S_api_Nack × Int)) (y1932 : Int × S_bits_Reader) (y1934 : Int × S_bits_Reader) : Nat → Int → (List Int) → Option (S_api_Nack × Int)
  | 0, _, _ => none
  | k + 1, x2250, x2251 =>
    (if x2250 < 0 then none else
  (if (bAnd .u32 (shR .u32 y1934.1 x2250) 1) = 1 then (wrap_Cut (w64 ((w64 ((w64 (y1932.1)) + x2250)) + 1)) 16).bind fun y2568 =>
  (cat 17592186044416 x2251 [y2568]).bind fun y2570 =>
  nack_Decode.j2875 (nack_Decode.l2564 r1 y1932 y1934 k) (r1) y1934 x2250 y2570 else nack_Decode.j2875 (nack_Decode.l2564 r1 y1932 y1934 k) (r1) y1934 x2250 x2251))
def nack_Decode.l1927 (y13 : Int × S_bits_Reader) (y15 : Int × S_bits_Reader) : Nat → (List Int) → S_bits_Reader → Option (S_api_Nack × Int)
  | 0, _, _ => none
  | k + 1, x972, x974 =>
    (bits_Reader_Left x974).bind fun y1929 =>
  (if 0 < y1929 then (bits_Reader_Get x974 16).bind fun y1932 =>
  (bits_Reader_Get y1932.2 16).bind fun y1934 =>
  (cat 17592186044416 x972 [w64 (y1932.1)]).bind fun y1936 =>
  nack_Decode.l2564 (nack_Decode.l1927 y13 y15 k) y1932 y1934 FUEL 0 y1936 else (nack_fault x972).bind fun y2877 =>
  (if y2877 = 0 then some ((⟨y13.1, y15.1, x972⟩ : S_api_Nack), 0) else some ((⟨0, 0, []⟩ : S_api_Nack), y2877)))
def nack_Decode (a1 : ByteArray) : Option (S_api_Nack × Int) :=
  (if 65536 < (a1.size : Int) then some ((⟨0, 0, []⟩ : S_api_Nack), 2) else (if ((a1.size : Int).tmod 4) = 0 then (if (a1.size : Int) < 12 then some ((⟨0, 0, []⟩ : S_api_Nack), 60) else (bits_Read a1).bind fun y10 =>
  (bits_Reader_Get y10 32).bind fun y13 =>
  (bits_Reader_Get y13.2 32).bind fun y15 =>
  nack_Decode.l1927 y13 y15 FUEL [] y15.2) else some ((⟨0, 0, []⟩ : S_api_Nack), 90)))
theorem nack_Decode_ok {a1 : ByteArray} {r : S_api_Nack × Int} (hres : nack_Decode a1 = some r) {w0 w : World} {F : List Asn} (hw : SH w0 w (F)) :
    Calls Try.prog 27 #[.string a1] w fun e w' => ∃ A2881 k2881, e = .returned (.tuple #[.agg #[.int .u32 r.1.Sender, .int .u32 r.1.Media, .slice A2881 r.1.Lost.length k2881], .int .i64 r.2]) ∧ SH w0 w' ([slA 3 (eI .i64) A2881 k2881 r.1.Lost] ++ F) := by
  refine fw_enter (n := 74) (bs := []) (env := [(0, S a1)]) (H := []) (F := F) Try.func27 rfl (by kernel_rfl) (by kernel_rfl) (by kernel_rfl) (hw.eq (by kernel_rfl)) ?_
  unfold nack_Decode at hres
  refine rn_seq ?_
  refine rn_text ?_
  refine ro_op (by kernel_rfl) (op_alloc 80 2 (.agg #[.int .u32 0, .int .u32 0, .slice none 0 0]) [U .u32 0, U .u32 0, .v (.slice none 0 0)] (fun b2 => [b2]) (fun b2 => [.c 0 [U .u32 0, U .u32 0, .v (.slice none 0 0)] 80]) (by kernel_rfl) (by kernel_rfl) (by kernel_rfl) (by kernel_rfl) 0 (fun _ => by kernel_rfl) (fun _ => mt_bs (by kernel_rfl)) (fun _ => by kernel_rfl) (fun b2 => ro_fin ?_))
  refine ro_q 1 [] [0, 2] [(0, S a1), (2, .p 0 0)] [] (by kernel_rfl) trivial ?_
  refine ro_end (by kernel_rfl) (fin_next ?_)
  refine rn_seq ?_
  refine rn_block ?_
  refine rn_seq ?_
  refine rn_q [] [0, 2, 10] [(0, S a1), (2, .p 0 0), (10, B (decide (65536 < (a1.size : Int))))] [] (by kernel_rfl) trivial (fin_next ?_)
  refine rn_cond (decide (65536 < (a1.size : Int))) (by kernel_rfl) (fun c3 => ?_) (fun c3 => ?_)
  · rw [if_pos (of_decide_eq_true c3)] at hres
    refine rn_seq ?_
    refine rn_text ?_
    refine ro_q 1 [] [2, 14] [(2, .p 0 0), (14, .v (.agg #[.int .u32 0, .int .u32 0, .slice none 0 0]))] [] (by kernel_rfl) trivial ?_
    refine ro_op (by kernel_rfl) (op_store 80 (.tmp 2) (.tmp 14) 0 0 (.v (.agg #[.int .u32 0, .int .u32 0, .slice none 0 0])) [.c 0 [U .u32 0, U .u32 0, .v (.slice none 0 0)] 80] (by kernel_rfl) (by kernel_rfl) (by kernel_rfl) (by kernel_rfl) (ro_fin ?_))
    refine ro_q 1 [] [2, 3] [(2, .p 0 0), (3, I 2)] [] (by kernel_rfl) trivial ?_
    refine ro_end (by kernel_rfl) (fin_next ?_)
    refine rn_ret (fin_block_ret (fin_then_ret ?_))
    refine fin_nil 3 (eI .i64) ?_
    refine fin_ret [.agg #[.int .u32 0, .int .u32 0, .slice none 0 0], .int .i64 2] (by kernel_rfl) fun w' hw' => ?_
    have hq := Option.some.inj hres
    subst hq
    exact ⟨none, 0, rfl, hw'.take (L' := [slA 3 (eI .i64) none 0 []]) [0] [cellsA b2 [.int .u32 0, .int .u32 0, .slice none 0 0] 80] (by kernel_rfl)⟩
  · rw [if_neg (of_decide_eq_false c3)] at hres
    refine rn_seq ?_
    refine rn_q [] [0, 2, 15] [(0, S a1), (2, .p 0 0), (15, B (((a1.size : Int).tmod 4) != 0))] [] (by kernel_rfl) trivial (fin_next ?_)
    refine rn_cond (((a1.size : Int).tmod 4) != 0) (by kernel_rfl) (fun c5 => ?_) (fun c5 => ?_)
    · rw [if_neg (ne_t c5)] at hres
      refine rn_seq ?_
      refine rn_text ?_
      refine ro_q 1 [] [2, 20] [(2, .p 0 0), (20, .v (.agg #[.int .u32 0, .int .u32 0, .slice none 0 0]))] [] (by kernel_rfl) trivial ?_
      refine ro_op (by kernel_rfl) (op_store 80 (.tmp 2) (.tmp 20) 0 0 (.v (.agg #[.int .u32 0, .int .u32 0, .slice none 0 0])) [.c 0 [U .u32 0, U .u32 0, .v (.slice none 0 0)] 80] (by kernel_rfl) (by kernel_rfl) (by kernel_rfl) (by kernel_rfl) (ro_fin ?_))
      refine ro_q 1 [] [2, 3] [(2, .p 0 0), (3, I 90)] [] (by kernel_rfl) trivial ?_
      refine ro_end (by kernel_rfl) (fin_next ?_)
      refine rn_ret (fin_block_ret (fin_then_ret ?_))
      refine fin_nil 3 (eI .i64) ?_
      refine fin_ret [.agg #[.int .u32 0, .int .u32 0, .slice none 0 0], .int .i64 90] (by kernel_rfl) fun w' hw' => ?_
      have hq := Option.some.inj hres
      subst hq
      exact ⟨none, 0, rfl, hw'.take (L' := [slA 3 (eI .i64) none 0 []]) [0] [cellsA b2 [.int .u32 0, .int .u32 0, .slice none 0 0] 80] (by kernel_rfl)⟩
    · rw [if_pos (ne_f c5)] at hres
      refine rn_seq ?_
      refine rn_q [] [0, 2, 21] [(0, S a1), (2, .p 0 0), (21, B (decide ((a1.size : Int) < 12)))] [] (by kernel_rfl) trivial (fin_next ?_)
      refine rn_cond (decide ((a1.size : Int) < 12)) (by kernel_rfl) (fun c7 => ?_) (fun c7 => ?_)
      · rw [if_pos (of_decide_eq_true c7)] at hres
        refine rn_seq ?_
        refine rn_text ?_
        refine ro_q 1 [] [2, 25] [(2, .p 0 0), (25, .v (.agg #[.int .u32 0, .int .u32 0, .slice none 0 0]))] [] (by kernel_rfl) trivial ?_
        refine ro_op (by kernel_rfl) (op_store 80 (.tmp 2) (.tmp 25) 0 0 (.v (.agg #[.int .u32 0, .int .u32 0, .slice none 0 0])) [.c 0 [U .u32 0, U .u32 0, .v (.slice none 0 0)] 80] (by kernel_rfl) (by kernel_rfl) (by kernel_rfl) (by kernel_rfl) (ro_fin ?_))
        refine ro_q 1 [] [2, 3] [(2, .p 0 0), (3, I 60)] [] (by kernel_rfl) trivial ?_
        refine ro_end (by kernel_rfl) (fin_next ?_)
        refine rn_ret (fin_block_ret (fin_then_ret ?_))
        refine fin_nil 3 (eI .i64) ?_
        refine fin_ret [.agg #[.int .u32 0, .int .u32 0, .slice none 0 0], .int .i64 60] (by kernel_rfl) fun w' hw' => ?_
        have hq := Option.some.inj hres
        subst hq
        exact ⟨none, 0, rfl, hw'.take (L' := [slA 3 (eI .i64) none 0 []]) [0] [cellsA b2 [.int .u32 0, .int .u32 0, .slice none 0 0] 80] (by kernel_rfl)⟩
      · rw [if_neg (of_decide_eq_false c7)] at hres
        refine rn_skip (fin_block (fin_next ?_))
        refine rn_seq ?_
        refine rn_text ?_
        refine ro_q 1 [] [2, 26] [(2, .p 0 0), (26, S a1)] [] (by kernel_rfl) trivial ?_
        refine bind_elim hres fun y10 hy10 hres => ?_
        refine ro_op (by kernel_rfl) (op_callp (f := 33) (xs := #[(.tmp 26)]) (ats := #[9]) (d := (some 27)) (args := #[.string a1]) (by kernel_rfl) (by kernel_rfl) (by kernel_rfl) (by kernel_rfl) fun w hw => (bits_Read_ok hy10 hw).mono ?_)
        rintro _ w1 ⟨b11, rfl, hw1⟩
        refine ⟨_, [b2, b11], [.a (R_bits_Reader b11 y10), .c 0 [U .u32 0, U .u32 0, .v (.slice none 0 0)] 80], _, [(27, .p 1 0), (2, .p 0 0), (26, S a1)], rfl, hw1.eq (by kernel_rfl), rfl, mt_conv (by kernel_rfl) (by kernel_rfl), ro_fin ?_⟩
        refine ro_q 1 [] [2, 4] [(2, .p 0 0), (4, .p 1 0)] [] (by kernel_rfl) trivial ?_
        refine ro_end (by kernel_rfl) (fin_next ?_)
        refine rn_seq ?_
        refine rn_text ?_
        refine ro_q 1 [] [2, 4, 28] [(2, .p 0 0), (4, .p 1 0), (28, .p 1 0)] [] (by kernel_rfl) trivial ?_
        refine bind_elim hres fun y13 hy13 hres => ?_
        refine ro_op (by kernel_rfl) (op_call (f := 34) (xs := #[(.tmp 28), (.const (.int .i64 32))]) (ats := #[96, 3]) (d := (some 29)) (args := #[.pointer (some ⟨b11, 0, none⟩), .int .i64 32]) (by kernel_rfl) (by kernel_rfl) (by kernel_rfl) (by kernel_rfl) fun w hw => (bits_Reader_Get_ok (F := [cellsA b2 [.int .u32 0, .int .u32 0, .slice none 0 0] 80] ++ F) hy13 (hw.sel [0] (by kernel_rfl : _ = [R_bits_Reader b11 y10] ++ ([cellsA b2 [.int .u32 0, .int .u32 0, .slice none 0 0] 80] ++ F)))).mono ?_)
        rintro _ w1 ⟨rfl, hw1⟩
        refine ⟨_, [b2, b11], [.a (R_bits_Reader b11 y13.2), .c 0 [U .u32 0, U .u32 0, .v (.slice none 0 0)] 80], _, rfl, hw1.eq (by kernel_rfl), rfl, mt_same, ro_fin ?_⟩
        refine ro_q 1 [] [2, 4, 29, 30] [(2, .p 0 0), (4, .p 1 0), (29, U .u32 y13.1), (30, .p 1 0)] [] (by kernel_rfl) trivial ?_
        refine bind_elim hres fun y15 hy15 hres => ?_
        refine ro_op (by kernel_rfl) (op_call (f := 34) (xs := #[(.tmp 30), (.const (.int .i64 32))]) (ats := #[96, 3]) (d := (some 31)) (args := #[.pointer (some ⟨b11, 0, none⟩), .int .i64 32]) (by kernel_rfl) (by kernel_rfl) (by kernel_rfl) (by kernel_rfl) fun w hw => (bits_Reader_Get_ok (F := [cellsA b2 [.int .u32 0, .int .u32 0, .slice none 0 0] 80] ++ F) hy15 (hw.sel [0] (by kernel_rfl : _ = [R_bits_Reader b11 y13.2] ++ ([cellsA b2 [.int .u32 0, .int .u32 0, .slice none 0 0] 80] ++ F)))).mono ?_)
        rintro _ w1 ⟨rfl, hw1⟩
        refine ⟨_, [b2, b11], [.a (R_bits_Reader b11 y15.2), .c 0 [U .u32 0, U .u32 0, .v (.slice none 0 0)] 80], _, rfl, hw1.eq (by kernel_rfl), rfl, mt_same, ro_fin ?_⟩
        refine ro_q 1 [] [2, 4, 32] [(2, .p 0 0), (4, .p 1 0), (32, .v (.agg #[.int .u32 y13.1, .int .u32 y15.1, .slice none 0 0]))] [] (by kernel_rfl) trivial ?_
        refine ro_op (by kernel_rfl) (op_alloc 80 5 (.agg #[.int .u32 0, .int .u32 0, .slice none 0 0]) [U .u32 0, U .u32 0, .v (.slice none 0 0)] (fun b16 => [b2, b11, b16]) (fun b16 => [.c 2 [U .u32 0, U .u32 0, .v (.slice none 0 0)] 80, .a (R_bits_Reader b11 y15.2), .c 0 [U .u32 0, U .u32 0, .v (.slice none 0 0)] 80]) (by kernel_rfl) (by kernel_rfl) (by kernel_rfl) (by kernel_rfl) 2 (fun _ => by kernel_rfl) (fun _ => mt_bs (by kernel_rfl)) (fun _ => by kernel_rfl) (fun b16 => ro_fin ?_))
        refine ro_op (by kernel_rfl) (op_store 80 (.tmp 5) (.tmp 32) 2 0 (.v (.agg #[.int .u32 y13.1, .int .u32 y15.1, .slice none 0 0])) [.c 2 [U .u32 y13.1, U .u32 y15.1, .v (.slice none 0 0)] 80, .a (R_bits_Reader b11 y15.2), .c 0 [U .u32 0, U .u32 0, .v (.slice none 0 0)] 80] (by kernel_rfl) (by kernel_rfl) (by kernel_rfl) (by kernel_rfl) (ro_fin ?_))
        refine ro_end (by kernel_rfl) (fin_next ?_)
        refine rn_seq ?_
        refine rn_block ?_
        refine rn_nil 3 (eI .i64) ?_
        refine rn_loop (V := List Int × S_bits_Reader × Option Addr × Nat) (J := fun k v => nack_Decode.l1927 y13 y15 k v.1 v.2.1 = some r) (sv := fun v => ⟨[b2, b11, b16], [(2, .p 0 0), (4, .p 1 0), (5, .p 2 0)], [.a (slA 3 (eI .i64) v.2.2.1 v.2.2.2 v.1), .c 2 [U .u32 y13.1, U .u32 y15.1, .v (.slice v.2.2.1 v.1.length v.2.2.2)] 80, .a (R_bits_Reader b11 v.2.1), .c 0 [U .u32 0, U .u32 0, .v (.slice none 0 0)] 80]⟩) FUEL ([], y15.2, none, 0) hres (fun a w hs => hs.conv [0, 0, 0, 0] (by kernel_rfl) (by kernel_rfl) ⟨[], by kernel_rfl⟩) ?_
        rintro k1927 ⟨x972, x974, A973, c973⟩ hres
        rcases k1927 with _ | k1927
        · rw [nack_Decode.l1927] at hres; cases hres
        · rw [nack_Decode.l1927] at hres
          refine rn_seq ?_
          refine rn_seq ?_
          refine rn_text ?_
          refine ro_q 1 [] [2, 4, 5, 33] [(2, .p 0 0), (4, .p 1 0), (5, .p 2 0), (33, .p 1 0)] [] (by kernel_rfl) trivial ?_
          refine bind_elim hres fun y1929 hy1929 hres => ?_
          refine ro_op (by kernel_rfl) (op_call (f := 36) (xs := #[(.tmp 33)]) (ats := #[96]) (d := (some 34)) (args := #[.pointer (some ⟨b11, 0, none⟩)]) (by kernel_rfl) (by kernel_rfl) (by kernel_rfl) (by kernel_rfl) fun w hw => (bits_Reader_Left_ok (F := [slA 3 (eI .i64) A973 c973 x972, cellsA b16 [.int .u32 y13.1, .int .u32 y15.1, .slice A973 x972.length c973] 80, cellsA b2 [.int .u32 0, .int .u32 0, .slice none 0 0] 80] ++ F) hy1929 (hw.sel [2] (by kernel_rfl : _ = [R_bits_Reader b11 x974] ++ ([slA 3 (eI .i64) A973 c973 x972, cellsA b16 [.int .u32 y13.1, .int .u32 y15.1, .slice A973 x972.length c973] 80, cellsA b2 [.int .u32 0, .int .u32 0, .slice none 0 0] 80] ++ F)))).mono ?_)
          rintro _ w1 ⟨rfl, hw1⟩
          refine ⟨_, [b2, b11, b16], [.a (R_bits_Reader b11 x974), .a (slA 3 (eI .i64) A973 c973 x972), .c 2 [U .u32 y13.1, U .u32 y15.1, .v (.slice A973 x972.length c973)] 80, .c 0 [U .u32 0, U .u32 0, .v (.slice none 0 0)] 80], _, rfl, hw1.eq (by kernel_rfl), rfl, mt_same, ro_fin ?_⟩
          refine ro_q 1 [] [2, 4, 5, 35] [(2, .p 0 0), (4, .p 1 0), (5, .p 2 0), (35, B (decide (0 < y1929)))] [] (by kernel_rfl) trivial ?_
          refine ro_end (by kernel_rfl) (fin_next ?_)
          refine rn_cond (decide (0 < y1929)) (by kernel_rfl) (fun c1930 => ?_) (fun c1930 => ?_)
          · rw [if_pos (of_decide_eq_true c1930)] at hres
            refine rn_skip (fin_next ?_)
            refine rn_block ?_
            refine rn_scope ?_
            refine rn_seq ?_
            refine rn_text ?_
            refine ro_q 1 [] [2, 4, 5, 36] [(2, .p 0 0), (4, .p 1 0), (5, .p 2 0), (36, .p 1 0)] [] (by kernel_rfl) trivial ?_
            refine bind_elim hres fun y1932 hy1932 hres => ?_
            refine ro_op (by kernel_rfl) (op_call (f := 34) (xs := #[(.tmp 36), (.const (.int .i64 16))]) (ats := #[96, 3]) (d := (some 37)) (args := #[.pointer (some ⟨b11, 0, none⟩), .int .i64 16]) (by kernel_rfl) (by kernel_rfl) (by kernel_rfl) (by kernel_rfl) fun w hw => (bits_Reader_Get_ok (F := [slA 3 (eI .i64) A973 c973 x972, cellsA b16 [.int .u32 y13.1, .int .u32 y15.1, .slice A973 x972.length c973] 80, cellsA b2 [.int .u32 0, .int .u32 0, .slice none 0 0] 80] ++ F) hy1932 (hw.sel [0] (by kernel_rfl : _ = [R_bits_Reader b11 x974] ++ ([slA 3 (eI .i64) A973 c973 x972, cellsA b16 [.int .u32 y13.1, .int .u32 y15.1, .slice A973 x972.length c973] 80, cellsA b2 [.int .u32 0, .int .u32 0, .slice none 0 0] 80] ++ F)))).mono ?_)
            rintro _ w1 ⟨rfl, hw1⟩
            refine ⟨_, [b2, b11, b16], [.a (R_bits_Reader b11 y1932.2), .a (slA 3 (eI .i64) A973 c973 x972), .c 2 [U .u32 y13.1, U .u32 y15.1, .v (.slice A973 x972.length c973)] 80, .c 0 [U .u32 0, U .u32 0, .v (.slice none 0 0)] 80], _, rfl, hw1.eq (by kernel_rfl), rfl, mt_same, ro_fin ?_⟩
            refine ro_q 2 [] [2, 4, 5, 38, 39] [(2, .p 0 0), (4, .p 1 0), (5, .p 2 0), (38, I (w64 (y1932.1))), (39, .p 1 0)] [] (by kernel_rfl) trivial ?_
            refine bind_elim hres fun y1934 hy1934 hres => ?_
            refine ro_op (by kernel_rfl) (op_call (f := 34) (xs := #[(.tmp 39), (.const (.int .i64 16))]) (ats := #[96, 3]) (d := (some 40)) (args := #[.pointer (some ⟨b11, 0, none⟩), .int .i64 16]) (by kernel_rfl) (by kernel_rfl) (by kernel_rfl) (by kernel_rfl) fun w hw => (bits_Reader_Get_ok (F := [slA 3 (eI .i64) A973 c973 x972, cellsA b16 [.int .u32 y13.1, .int .u32 y15.1, .slice A973 x972.length c973] 80, cellsA b2 [.int .u32 0, .int .u32 0, .slice none 0 0] 80] ++ F) hy1934 (hw.sel [0] (by kernel_rfl : _ = [R_bits_Reader b11 y1932.2] ++ ([slA 3 (eI .i64) A973 c973 x972, cellsA b16 [.int .u32 y13.1, .int .u32 y15.1, .slice A973 x972.length c973] 80, cellsA b2 [.int .u32 0, .int .u32 0, .slice none 0 0] 80] ++ F)))).mono ?_)
            rintro _ w1 ⟨rfl, hw1⟩
            refine ⟨_, [b2, b11, b16], [.a (R_bits_Reader b11 y1934.2), .a (slA 3 (eI .i64) A973 c973 x972), .c 2 [U .u32 y13.1, U .u32 y15.1, .v (.slice A973 x972.length c973)] 80, .c 0 [U .u32 0, U .u32 0, .v (.slice none 0 0)] 80], _, rfl, hw1.eq (by kernel_rfl), rfl, mt_same, ro_fin ?_⟩
            refine ro_q 2 [] [2, 4, 5, 6, 7] [(2, .p 0 0), (4, .p 1 0), (5, .p 2 0), (6, I (w64 (y1932.1))), (7, U .u32 y1934.1)] [] (by kernel_rfl) trivial ?_
            refine ro_end (by kernel_rfl) (fin_next ?_)
            refine rn_seq ?_
            refine rn_text ?_
            refine ro_q 3 [] [2, 4, 5, 6, 7, 42, 43] [(2, .p 0 0), (4, .p 1 0), (5, .p 2 0), (6, I (w64 (y1932.1))), (7, U .u32 y1934.1), (42, .v (.slice A973 x972.length c973)), (43, I (w64 (y1932.1)))] [] (by kernel_rfl) trivial ?_
            refine ro_op (by kernel_rfl) (op_bslice (E := (eI .i64)) 31 3 1 #[(0, (.tmp 43))] 44 [w64 (y1932.1)] (by kernel_rfl) (by kernel_rfl) (by kernel_rfl) rfl (by decide) (by kernel_rfl) (fun b1935 => ro_fin ?_))
            refine bind_elim hres fun y1936 hy1936 hres => ?_
            refine ro_op (by kernel_rfl) (op_append (E := (eI .i64)) (lim := 17592186044416) 31 31 3 (.tmp 42) (.tmp 44) 45 A973 (.slice (some ⟨b1935, 0, none⟩) 1 1) c973 x972 [w64 (y1932.1)] ((Try.prog.info? 3).get rfl) (((Try.prog.info? 3).get rfl).zero.get rfl) 2 [.a (slA 3 (eI .i64) (some ⟨b1935, 0, none⟩) 1 [w64 (y1932.1)]), .a (R_bits_Reader b11 y1934.2), .c 2 [U .u32 y13.1, U .u32 y15.1, .v (.slice A973 x972.length c973)] 80, .c 0 [U .u32 0, U .u32 0, .v (.slice none 0 0)] 80] (by kernel_rfl) (by kernel_rfl) (by kernel_rfl) (by kernel_rfl) (by kernel_rfl) (by kernel_rfl) (by kernel_rfl) (by kernel_rfl) (by kernel_rfl) (Nat.le_of_ble_eq_true (by kernel_rfl)) (by decide) hy1936 (by kernel_rfl) (ap_sl (e := 3) (E := (eI .i64)) (B := (some ⟨b1935, 0, none⟩)) (c := 1) (M := [w64 (y1932.1)]) (by kernel_rfl) (by kernel_rfl) (row_at (U := 3) (E := (eI .i64)) (A := (some ⟨b1935, 0, none⟩)) (c := 1) (L := [w64 (y1932.1)]) 0 (by kernel_rfl))) (fun A1937 k1937 => ro_fin ?_))
            refine ro_q 1 [] [2, 4, 5, 6, 7, 45, 46] [(2, .p 0 0), (4, .p 1 0), (5, .p 2 0), (6, I (w64 (y1932.1))), (7, U .u32 y1934.1), (45, .v (.slice A1937 y1936.length k1937)), (46, .p 2 2)] [] (by kernel_rfl) trivial ?_
            refine ro_op (by kernel_rfl) (op_store 31 (.tmp 46) (.tmp 45) 2 2 (.v (.slice A1937 y1936.length k1937)) [.a (slA 3 (eI .i64) A1937 k1937 y1936), .a (slA 3 (eI .i64) (some ⟨b1935, 0, none⟩) 1 [w64 (y1932.1)]), .a (R_bits_Reader b11 y1934.2), .c 2 [U .u32 y13.1, U .u32 y15.1, .v (.slice A1937 y1936.length k1937)] 80, .c 0 [U .u32 0, U .u32 0, .v (.slice none 0 0)] 80] (by kernel_rfl) (by kernel_rfl) (by kernel_rfl) (by kernel_rfl) (ro_fin ?_))
            refine ro_end (by kernel_rfl) (fin_next ?_)
            refine rn_seq ?_
            refine rn_q [] [2, 4, 5, 6, 7, 8] [(2, .p 0 0), (4, .p 1 0), (5, .p 2 0), (6, I (w64 (y1932.1))), (7, U .u32 y1934.1), (8, I 0)] [] (by kernel_rfl) trivial (fin_next ?_)
            refine rn_label (by kernel_rfl) (V := Int × List Int × Option Addr × Nat) (J := fun k v => nack_Decode.l2564 (nack_Decode.l1927 y13 y15 k1927) y1932 y1934 k v.1 v.2.1 = some r) (sv := fun v => ⟨[b2, b11, b16], [(2, .p 0 0), (4, .p 1 0), (5, .p 2 0), (6, I (w64 (y1932.1))), (7, U .u32 y1934.1), (8, I v.1)], [.a (slA 3 (eI .i64) v.2.2.1 v.2.2.2 v.2.1), .a (R_bits_Reader b11 y1934.2), .c 2 [U .u32 y13.1, U .u32 y15.1, .v (.slice v.2.2.1 v.2.1.length v.2.2.2)] 80, .c 0 [U .u32 0, U .u32 0, .v (.slice none 0 0)] 80]⟩) FUEL (0, y1936, A1937, k1937) hres (fun a w hs => hs.conv [0, 1, 1, 1] (by kernel_rfl) (by kernel_rfl) ⟨[slA 3 (eI .i64) (some ⟨b1935, 0, none⟩) 1 [w64 (y1932.1)]], by kernel_rfl⟩) ?_
            rintro k2564 ⟨x2250, x2251, A2252, c2252⟩ hres
            rcases k2564 with _ | k2564
            · rw [nack_Decode.l2564] at hres; cases hres
            · rw [nack_Decode.l2564] at hres
              refine rn_join (V := List Int × Option Addr × Nat) (J := fun v => nack_Decode.j2875 (nack_Decode.l2564 (nack_Decode.l1927 y13 y15 k1927) y1932 y1934 k2564) (nack_Decode.l1927 y13 y15 k1927) y1934 x2250 v.1 = some r) (sv := fun v => ⟨[b2, b11, b16], [(2, .p 0 0), (4, .p 1 0), (5, .p 2 0), (6, I (w64 (y1932.1))), (7, U .u32 y1934.1), (8, I x2250)], [.a (slA 3 (eI .i64) v.2.1 v.2.2 v.1), .a (R_bits_Reader b11 y1934.2), .c 2 [U .u32 y13.1, U .u32 y15.1, .v (.slice v.2.1 v.1.length v.2.2)] 80, .c 0 [U .u32 0, U .u32 0, .v (.slice none 0 0)] 80]⟩) ?_ ?_
              · refine rn_seq ?_
                have hy2565 : ¬ x2250 < 0 := by intro hz; rw [if_pos hz] at hres; cases hres
                rw [if_neg hy2565] at hres
                refine rn_q [(2, U .u32 (shR .u32 y1934.1 x2250))] [2, 4, 5, 6, 7, 8, 51] [(2, .p 0 0), (4, .p 1 0), (5, .p 2 0), (6, I (w64 (y1932.1))), (7, U .u32 y1934.1), (8, I x2250), (51, B ((bAnd .u32 (shR .u32 y1934.1 x2250) 1) == 1))] [(smShr .u32 y1934.1 .i64 x2250, .int .u32 (shR .u32 y1934.1 x2250))] (by kernel_rfl) ⟨ob_shr hy2565, trivial⟩ (fin_next ?_)
                refine rn_cond ((bAnd .u32 (shR .u32 y1934.1 x2250) 1) == 1) (by kernel_rfl) (fun c2566 => ?_) (fun c2566 => ?_)
                · rw [if_pos (eq_t c2566)] at hres
                  refine bind_elim hres fun y2568 hy2568 hres => ?_
                  refine bind_elim hres fun y2570 hy2570 hres => ?_
                  refine rn_meet (V := Nat × Option Addr × Nat) (J := fun _ => True) (sv := fun v => ⟨[b2, b11, b16], [(2, .p 0 0), (4, .p 1 0), (5, .p 2 0), (6, I (w64 (y1932.1))), (7, U .u32 y1934.1), (8, I x2250)], [.a (slA 3 (eI .i64) v.2.1 v.2.2 y2570), .a (slA 3 (eI .i64) (some ⟨v.1, 0, none⟩) 1 [y2568]), .a (R_bits_Reader b11 y1934.2), .c 2 [U .u32 y13.1, U .u32 y15.1, .v (.slice v.2.1 y2570.length v.2.2)] 80, .c 0 [U .u32 0, U .u32 0, .v (.slice none 0 0)] 80]⟩) ?_ ?_
                  · refine rn_held (hden [b2, b11, b16] [.a (R_bits_Reader b11 y1934.2), .c 0 [U .u32 0, U .u32 0, .v (.slice none 0 0)] 80] ++ F) (by kernel_rfl) ?_
                    refine rh_q [.a (R_bits_Reader b11 y1934.2), .c 0 [U .u32 0, U .u32 0, .v (.slice none 0 0)] 80] 6 [0, 2, 3, 4, 5] [] [2, 4, 5, 6, 7, 8, 52, 57] [(2, .p 0 0), (4, .p 1 0), (5, .p 2 0), (6, I (w64 (y1932.1))), (7, U .u32 y1934.1), (8, I x2250), (52, .p 2 2), (57, I (w64 ((w64 ((w64 (y1932.1)) + x2250)) + 1)))] [true, false, true, true, true, true, false, false, false, false, false] [] rfl (by kernel_rfl) rfl [1, 2] [slA 3 (eI .i64) A2252 c2252 x2251, cellsA b16 [.int .u32 y13.1, .int .u32 y15.1, .slice A2252 x2251.length c2252] 80] (by kernel_rfl) (by kernel_rfl) trivial ?_
                    refine rh_2 1 6 (by kernel_rfl) ?_ ?_
                    · refine op_quiet none (.v (.slice A2252 x2251.length c2252)) _ _ rfl (by kernel_rfl) (by kernel_rfl) (by kernel_rfl) (by kernel_rfl) (fun _ hy => by cases hy) rfl (fin_held [.a (R_bits_Reader b11 y1934.2), .c 0 [U .u32 0, U .u32 0, .v (.slice none 0 0)] 80] [true, true, true, true, true, true, false, false, false, false, false] (by kernel_rfl) rfl [1, 2] [slA 3 (eI .i64) A2252 c2252 x2251, cellsA b16 [.int .u32 y13.1, .int .u32 y15.1, .slice A2252 x2251.length c2252] 80] (by kernel_rfl) ?_)
                      refine rh_1 6 (by kernel_rfl) ?_
                      refine op_call (f := 29) (xs := #[(.tmp 57), (.const (.int .i64 16))]) (ats := #[2, 3]) (d := (some 58)) (args := #[.int .i64 (w64 ((w64 ((w64 (y1932.1)) + x2250)) + 1)), .int .i64 16]) (by kernel_rfl) (by kernel_rfl) (by kernel_rfl) (by kernel_rfl) fun w hw => (wrap_Cut_ok hy2568 hw).mono ?_
                      rintro _ w1 ⟨rfl, hw1⟩
                      refine ⟨_, [b2, b11, b16], [.a (slA 3 (eI .i64) A2252 c2252 x2251), .a (R_bits_Reader b11 y1934.2), .c 2 [U .u32 y13.1, U .u32 y15.1, .v (.slice A2252 x2251.length c2252)] 80, .c 0 [U .u32 0, U .u32 0, .v (.slice none 0 0)] 80], _, rfl, hw1.eq (by kernel_rfl), rfl, mt_same, fin_held [.a (R_bits_Reader b11 y1934.2), .c 0 [U .u32 0, U .u32 0, .v (.slice none 0 0)] 80] [true, true, true, true, true, true, true, false, false, false, false] (by kernel_rfl) rfl [1, 2] [slA 3 (eI .i64) A2252 c2252 x2251, cellsA b16 [.int .u32 y13.1, .int .u32 y15.1, .slice A2252 x2251.length c2252] 80] (by kernel_rfl) ?_⟩
                      refine rh_1 7 (by kernel_rfl) ?_
                      refine op_bslice (E := (eI .i64)) 31 3 1 #[(0, (.tmp 58))] 59 [y2568] (by kernel_rfl) (by kernel_rfl) (by kernel_rfl) rfl (by decide) (by kernel_rfl) (fun b2569 => fin_held [.a (R_bits_Reader b11 y1934.2), .c 0 [U .u32 0, U .u32 0, .v (.slice none 0 0)] 80] [true, true, true, true, true, true, true, true, false, false, false] (by kernel_rfl) rfl [2, 3] [slA 3 (eI .i64) (some ⟨b2569, 0, none⟩) 1 [y2568], slA 3 (eI .i64) A2252 c2252 x2251, cellsA b16 [.int .u32 y13.1, .int .u32 y15.1, .slice A2252 x2251.length c2252] 80] (by kernel_rfl) ?_)
                      refine rh_1 8 (by kernel_rfl) ?_
                      refine op_append (E := (eI .i64)) (lim := 17592186044416) 31 31 3 (.tmp 53) (.tmp 59) 60 A2252 (.slice (some ⟨b2569, 0, none⟩) 1 1) c2252 x2251 [y2568] ((Try.prog.info? 3).get rfl) (((Try.prog.info? 3).get rfl).zero.get rfl) 1 [.a (slA 3 (eI .i64) (some ⟨b2569, 0, none⟩) 1 [y2568]), .a (R_bits_Reader b11 y1934.2), .c 2 [U .u32 y13.1, U .u32 y15.1, .v (.slice A2252 x2251.length c2252)] 80, .c 0 [U .u32 0, U .u32 0, .v (.slice none 0 0)] 80] (by kernel_rfl) (by kernel_rfl) (by kernel_rfl) (by kernel_rfl) (by kernel_rfl) (by kernel_rfl) (by kernel_rfl) (by kernel_rfl) (by kernel_rfl) (Nat.le_of_ble_eq_true (by kernel_rfl)) (by decide) hy2570 (by kernel_rfl) (ap_sl (e := 3) (E := (eI .i64)) (B := (some ⟨b2569, 0, none⟩)) (c := 1) (M := [y2568]) (by kernel_rfl) (by kernel_rfl) (row_at (U := 3) (E := (eI .i64)) (A := (some ⟨b2569, 0, none⟩)) (c := 1) (L := [y2568]) 0 (by kernel_rfl))) (fun A2571 k2571 => fin_held [.a (R_bits_Reader b11 y1934.2), .c 0 [U .u32 0, U .u32 0, .v (.slice none 0 0)] 80] [true, true, true, true, true, true, true, true, true, false, false] (by kernel_rfl) rfl [2, 3] [slA 3 (eI .i64) A2571 k2571 y2570, slA 3 (eI .i64) (some ⟨b2569, 0, none⟩) 1 [y2568], cellsA b16 [.int .u32 y13.1, .int .u32 y15.1, .slice A2252 x2251.length c2252] 80] (by kernel_rfl) ?_)
                      refine rh_q [.a (R_bits_Reader b11 y1934.2), .c 0 [U .u32 0, U .u32 0, .v (.slice none 0 0)] 80] 1 [9] [] [2, 4, 5, 6, 7, 8, 60, 61] [(2, .p 0 0), (4, .p 1 0), (5, .p 2 0), (6, I (w64 (y1932.1))), (7, U .u32 y1934.1), (8, I x2250), (60, .v (.slice A2571 y2570.length k2571)), (61, .p 2 2)] [true, true, true, true, true, true, true, true, true, true, false] [] rfl (by kernel_rfl) rfl [2, 3] [slA 3 (eI .i64) A2571 k2571 y2570, slA 3 (eI .i64) (some ⟨b2569, 0, none⟩) 1 [y2568], cellsA b16 [.int .u32 y13.1, .int .u32 y15.1, .slice A2252 x2251.length c2252] 80] (by kernel_rfl) (by kernel_rfl) trivial ?_
                      refine rh_1 10 (by kernel_rfl) ?_
                      refine op_store 31 (.tmp 61) (.tmp 60) 2 2 (.v (.slice A2571 y2570.length k2571)) [.a (slA 3 (eI .i64) A2571 k2571 y2570), .a (slA 3 (eI .i64) (some ⟨b2569, 0, none⟩) 1 [y2568]), .a (R_bits_Reader b11 y1934.2), .c 2 [U .u32 y13.1, U .u32 y15.1, .v (.slice A2571 y2570.length k2571)] 80, .c 0 [U .u32 0, U .u32 0, .v (.slice none 0 0)] 80] (by kernel_rfl) (by kernel_rfl) (by kernel_rfl) (by kernel_rfl) (fin_held [.a (R_bits_Reader b11 y1934.2), .c 0 [U .u32 0, U .u32 0, .v (.slice none 0 0)] 80] [true, true, true, true, true, true, true, true, true, true, true] (by kernel_rfl) rfl [2, 3] [slA 3 (eI .i64) A2571 k2571 y2570, slA 3 (eI .i64) (some ⟨b2569, 0, none⟩) 1 [y2568], cellsA b16 [.int .u32 y13.1, .int .u32 y15.1, .slice A2571 y2570.length k2571] 80] (by kernel_rfl) ?_)
                      refine rh_end (by kernel_rfl) (fin_then ?_)
                      exact fin_join (b2569, A2571, k2571) trivial [0, 0, 0, 0, 0] [] (by kernel_rfl) (by kernel_rfl) (by kernel_rfl)
                    · refine op_call (f := 29) (xs := #[(.tmp 57), (.const (.int .i64 16))]) (ats := #[2, 3]) (d := (some 58)) (args := #[.int .i64 (w64 ((w64 ((w64 (y1932.1)) + x2250)) + 1)), .int .i64 16]) (by kernel_rfl) (by kernel_rfl) (by kernel_rfl) (by kernel_rfl) fun w hw => (wrap_Cut_ok hy2568 hw).mono ?_
                      rintro _ w1 ⟨rfl, hw1⟩
                      refine ⟨_, [b2, b11, b16], [.a (slA 3 (eI .i64) A2252 c2252 x2251), .a (R_bits_Reader b11 y1934.2), .c 2 [U .u32 y13.1, U .u32 y15.1, .v (.slice A2252 x2251.length c2252)] 80, .c 0 [U .u32 0, U .u32 0, .v (.slice none 0 0)] 80], _, rfl, hw1.eq (by kernel_rfl), rfl, mt_same, fin_held [.a (R_bits_Reader b11 y1934.2), .c 0 [U .u32 0, U .u32 0, .v (.slice none 0 0)] 80] [true, false, true, true, true, true, true, false, false, false, false] (by kernel_rfl) rfl [1, 2] [slA 3 (eI .i64) A2252 c2252 x2251, cellsA b16 [.int .u32 y13.1, .int .u32 y15.1, .slice A2252 x2251.length c2252] 80] (by kernel_rfl) ?_⟩
                      refine rh_2 1 7 (by kernel_rfl) ?_ ?_
                      · refine op_quiet none (.v (.slice A2252 x2251.length c2252)) _ _ rfl (by kernel_rfl) (by kernel_rfl) (by kernel_rfl) (by kernel_rfl) (fun _ hy => by cases hy) rfl (fin_held [.a (R_bits_Reader b11 y1934.2), .c 0 [U .u32 0, U .u32 0, .v (.slice none 0 0)] 80] [true, true, true, true, true, true, true, false, false, false, false] (by kernel_rfl) rfl [1, 2] [slA 3 (eI .i64) A2252 c2252 x2251, cellsA b16 [.int .u32 y13.1, .int .u32 y15.1, .slice A2252 x2251.length c2252] 80] (by kernel_rfl) ?_)
                        refine rh_1 7 (by kernel_rfl) ?_
                        refine op_bslice (E := (eI .i64)) 31 3 1 #[(0, (.tmp 58))] 59 [y2568] (by kernel_rfl) (by kernel_rfl) (by kernel_rfl) rfl (by decide) (by kernel_rfl) (fun b2569 => fin_held [.a (R_bits_Reader b11 y1934.2), .c 0 [U .u32 0, U .u32 0, .v (.slice none 0 0)] 80] [true, true, true, true, true, true, true, true, false, false, false] (by kernel_rfl) rfl [2, 3] [slA 3 (eI .i64) (some ⟨b2569, 0, none⟩) 1 [y2568], slA 3 (eI .i64) A2252 c2252 x2251, cellsA b16 [.int .u32 y13.1, .int .u32 y15.1, .slice A2252 x2251.length c2252] 80] (by kernel_rfl) ?_)
                        refine rh_1 8 (by kernel_rfl) ?_
                        refine op_append (E := (eI .i64)) (lim := 17592186044416) 31 31 3 (.tmp 53) (.tmp 59) 60 A2252 (.slice (some ⟨b2569, 0, none⟩) 1 1) c2252 x2251 [y2568] ((Try.prog.info? 3).get rfl) (((Try.prog.info? 3).get rfl).zero.get rfl) 1 [.a (slA 3 (eI .i64) (some ⟨b2569, 0, none⟩) 1 [y2568]), .a (R_bits_Reader b11 y1934.2), .c 2 [U .u32 y13.1, U .u32 y15.1, .v (.slice A2252 x2251.length c2252)] 80, .c 0 [U .u32 0, U .u32 0, .v (.slice none 0 0)] 80] (by kernel_rfl) (by kernel_rfl) (by kernel_rfl) (by kernel_rfl) (by kernel_rfl) (by kernel_rfl) (by kernel_rfl) (by kernel_rfl) (by kernel_rfl) (Nat.le_of_ble_eq_true (by kernel_rfl)) (by decide) hy2570 (by kernel_rfl) (ap_sl (e := 3) (E := (eI .i64)) (B := (some ⟨b2569, 0, none⟩)) (c := 1) (M := [y2568]) (by kernel_rfl) (by kernel_rfl) (row_at (U := 3) (E := (eI .i64)) (A := (some ⟨b2569, 0, none⟩)) (c := 1) (L := [y2568]) 0 (by kernel_rfl))) (fun A2571 k2571 => fin_held [.a (R_bits_Reader b11 y1934.2), .c 0 [U .u32 0, U .u32 0, .v (.slice none 0 0)] 80] [true, true, true, true, true, true, true, true, true, false, false] (by kernel_rfl) rfl [2, 3] [slA 3 (eI .i64) A2571 k2571 y2570, slA 3 (eI .i64) (some ⟨b2569, 0, none⟩) 1 [y2568], cellsA b16 [.int .u32 y13.1, .int .u32 y15.1, .slice A2252 x2251.length c2252] 80] (by kernel_rfl) ?_)
                        refine rh_q [.a (R_bits_Reader b11 y1934.2), .c 0 [U .u32 0, U .u32 0, .v (.slice none 0 0)] 80] 1 [9] [] [2, 4, 5, 6, 7, 8, 60, 61] [(2, .p 0 0), (4, .p 1 0), (5, .p 2 0), (6, I (w64 (y1932.1))), (7, U .u32 y1934.1), (8, I x2250), (60, .v (.slice A2571 y2570.length k2571)), (61, .p 2 2)] [true, true, true, true, true, true, true, true, true, true, false] [] rfl (by kernel_rfl) rfl [2, 3] [slA 3 (eI .i64) A2571 k2571 y2570, slA 3 (eI .i64) (some ⟨b2569, 0, none⟩) 1 [y2568], cellsA b16 [.int .u32 y13.1, .int .u32 y15.1, .slice A2252 x2251.length c2252] 80] (by kernel_rfl) (by kernel_rfl) trivial ?_
                        refine rh_1 10 (by kernel_rfl) ?_
                        refine op_store 31 (.tmp 61) (.tmp 60) 2 2 (.v (.slice A2571 y2570.length k2571)) [.a (slA 3 (eI .i64) A2571 k2571 y2570), .a (slA 3 (eI .i64) (some ⟨b2569, 0, none⟩) 1 [y2568]), .a (R_bits_Reader b11 y1934.2), .c 2 [U .u32 y13.1, U .u32 y15.1, .v (.slice A2571 y2570.length k2571)] 80, .c 0 [U .u32 0, U .u32 0, .v (.slice none 0 0)] 80] (by kernel_rfl) (by kernel_rfl) (by kernel_rfl) (by kernel_rfl) (fin_held [.a (R_bits_Reader b11 y1934.2), .c 0 [U .u32 0, U .u32 0, .v (.slice none 0 0)] 80] [true, true, true, true, true, true, true, true, true, true, true] (by kernel_rfl) rfl [2, 3] [slA 3 (eI .i64) A2571 k2571 y2570, slA 3 (eI .i64) (some ⟨b2569, 0, none⟩) 1 [y2568], cellsA b16 [.int .u32 y13.1, .int .u32 y15.1, .slice A2571 y2570.length k2571] 80] (by kernel_rfl) ?_)
                        refine rh_end (by kernel_rfl) (fin_then ?_)
                        exact fin_join (b2569, A2571, k2571) trivial [0, 0, 0, 0, 0] [] (by kernel_rfl) (by kernel_rfl) (by kernel_rfl)
                      · refine op_bslice (E := (eI .i64)) 31 3 1 #[(0, (.tmp 58))] 59 [y2568] (by kernel_rfl) (by kernel_rfl) (by kernel_rfl) rfl (by decide) (by kernel_rfl) (fun b2569 => fin_held [.a (R_bits_Reader b11 y1934.2), .c 0 [U .u32 0, U .u32 0, .v (.slice none 0 0)] 80] [true, false, true, true, true, true, true, true, false, false, false] (by kernel_rfl) rfl [2, 3] [slA 3 (eI .i64) (some ⟨b2569, 0, none⟩) 1 [y2568], slA 3 (eI .i64) A2252 c2252 x2251, cellsA b16 [.int .u32 y13.1, .int .u32 y15.1, .slice A2252 x2251.length c2252] 80] (by kernel_rfl) ?_)
                        refine rh_1 1 (by kernel_rfl) ?_
                        refine op_quiet none (.v (.slice A2252 x2251.length c2252)) _ _ rfl (by kernel_rfl) (by kernel_rfl) (by kernel_rfl) (by kernel_rfl) (fun _ hy => by cases hy) rfl (fin_held [.a (R_bits_Reader b11 y1934.2), .c 0 [U .u32 0, U .u32 0, .v (.slice none 0 0)] 80] [true, true, true, true, true, true, true, true, false, false, false] (by kernel_rfl) rfl [2, 3] [slA 3 (eI .i64) (some ⟨b2569, 0, none⟩) 1 [y2568], slA 3 (eI .i64) A2252 c2252 x2251, cellsA b16 [.int .u32 y13.1, .int .u32 y15.1, .slice A2252 x2251.length c2252] 80] (by kernel_rfl) ?_)
                        refine rh_1 8 (by kernel_rfl) ?_
                        refine op_append (E := (eI .i64)) (lim := 17592186044416) 31 31 3 (.tmp 53) (.tmp 59) 60 A2252 (.slice (some ⟨b2569, 0, none⟩) 1 1) c2252 x2251 [y2568] ((Try.prog.info? 3).get rfl) (((Try.prog.info? 3).get rfl).zero.get rfl) 1 [.a (slA 3 (eI .i64) (some ⟨b2569, 0, none⟩) 1 [y2568]), .a (R_bits_Reader b11 y1934.2), .c 2 [U .u32 y13.1, U .u32 y15.1, .v (.slice A2252 x2251.length c2252)] 80, .c 0 [U .u32 0, U .u32 0, .v (.slice none 0 0)] 80] (by kernel_rfl) (by kernel_rfl) (by kernel_rfl) (by kernel_rfl) (by kernel_rfl) (by kernel_rfl) (by kernel_rfl) (by kernel_rfl) (by kernel_rfl) (Nat.le_of_ble_eq_true (by kernel_rfl)) (by decide) hy2570 (by kernel_rfl) (ap_sl (e := 3) (E := (eI .i64)) (B := (some ⟨b2569, 0, none⟩)) (c := 1) (M := [y2568]) (by kernel_rfl) (by kernel_rfl) (row_at (U := 3) (E := (eI .i64)) (A := (some ⟨b2569, 0, none⟩)) (c := 1) (L := [y2568]) 0 (by kernel_rfl))) (fun A2571 k2571 => fin_held [.a (R_bits_Reader b11 y1934.2), .c 0 [U .u32 0, U .u32 0, .v (.slice none 0 0)] 80] [true, true, true, true, true, true, true, true, true, false, false] (by kernel_rfl) rfl [2, 3] [slA 3 (eI .i64) A2571 k2571 y2570, slA 3 (eI .i64) (some ⟨b2569, 0, none⟩) 1 [y2568], cellsA b16 [.int .u32 y13.1, .int .u32 y15.1, .slice A2252 x2251.length c2252] 80] (by kernel_rfl) ?_)
                        refine rh_q [.a (R_bits_Reader b11 y1934.2), .c 0 [U .u32 0, U .u32 0, .v (.slice none 0 0)] 80] 1 [9] [] [2, 4, 5, 6, 7, 8, 60, 61] [(2, .p 0 0), (4, .p 1 0), (5, .p 2 0), (6, I (w64 (y1932.1))), (7, U .u32 y1934.1), (8, I x2250), (60, .v (.slice A2571 y2570.length k2571)), (61, .p 2 2)] [true, true, true, true, true, true, true, true, true, true, false] [] rfl (by kernel_rfl) rfl [2, 3] [slA 3 (eI .i64) A2571 k2571 y2570, slA 3 (eI .i64) (some ⟨b2569, 0, none⟩) 1 [y2568], cellsA b16 [.int .u32 y13.1, .int .u32 y15.1, .slice A2252 x2251.length c2252] 80] (by kernel_rfl) (by kernel_rfl) trivial ?_
                        refine rh_1 10 (by kernel_rfl) ?_
                        refine op_store 31 (.tmp 61) (.tmp 60) 2 2 (.v (.slice A2571 y2570.length k2571)) [.a (slA 3 (eI .i64) A2571 k2571 y2570), .a (slA 3 (eI .i64) (some ⟨b2569, 0, none⟩) 1 [y2568]), .a (R_bits_Reader b11 y1934.2), .c 2 [U .u32 y13.1, U .u32 y15.1, .v (.slice A2571 y2570.length k2571)] 80, .c 0 [U .u32 0, U .u32 0, .v (.slice none 0 0)] 80] (by kernel_rfl) (by kernel_rfl) (by kernel_rfl) (by kernel_rfl) (fin_held [.a (R_bits_Reader b11 y1934.2), .c 0 [U .u32 0, U .u32 0, .v (.slice none 0 0)] 80] [true, true, true, true, true, true, true, true, true, true, true] (by kernel_rfl) rfl [2, 3] [slA 3 (eI .i64) A2571 k2571 y2570, slA 3 (eI .i64) (some ⟨b2569, 0, none⟩) 1 [y2568], cellsA b16 [.int .u32 y13.1, .int .u32 y15.1, .slice A2571 y2570.length k2571] 80] (by kernel_rfl) ?_)
                        refine rh_end (by kernel_rfl) (fin_then ?_)
                        exact fin_join (b2569, A2571, k2571) trivial [0, 0, 0, 0, 0] [] (by kernel_rfl) (by kernel_rfl) (by kernel_rfl)
                  · rintro ⟨b2569, A2571, k2571⟩ -
                    refine fin_id (fin_then ?_)
                    refine fin_join (y2570, A2571, k2571) hres [0, 1, 1, 1] [slA 3 (eI .i64) (some ⟨b2569, 0, none⟩) 1 [y2568]] (by kernel_rfl) (by kernel_rfl) (by kernel_rfl)
                · rw [if_neg (eq_f c2566)] at hres
                  refine rn_skip (fin_then ?_)
                  refine fin_join (x2251, A2252, c2252) hres [0, 0, 0, 0] [] (by kernel_rfl) (by kernel_rfl) (by kernel_rfl)
              · rintro ⟨j2872, A2873, c2873⟩ hres
                unfold nack_Decode.j2875 at hres
                refine rn_seq ?_
                refine rn_q [] [2, 4, 5, 6, 7, 8] [(2, .p 0 0), (4, .p 1 0), (5, .p 2 0), (6, I (w64 (y1932.1))), (7, U .u32 y1934.1), (8, I (w64 (x2250 + 1)))] [] (by kernel_rfl) trivial (fin_next ?_)
                refine rn_seq ?_
                refine rn_q [] [2, 4, 5, 6, 7, 8, 65] [(2, .p 0 0), (4, .p 1 0), (5, .p 2 0), (6, I (w64 (y1932.1))), (7, U .u32 y1934.1), (8, I (w64 (x2250 + 1))), (65, B (decide ((w64 (x2250 + 1)) < 16)))] [] (by kernel_rfl) trivial (fin_next ?_)
                refine rn_cond (decide ((w64 (x2250 + 1)) < 16)) (by kernel_rfl) (fun c2874 => ?_) (fun c2874 => ?_)
                · rw [if_pos (of_decide_eq_true c2874)] at hres
                  refine rn_goto (fin_goto ?_)
                  refine fin_loop (w64 (x2250 + 1), j2872, A2873, c2873) hres [0, 0, 0, 0] [] (by kernel_rfl) (by kernel_rfl) (by kernel_rfl)
                · rw [if_neg (of_decide_eq_false c2874)] at hres
                  refine rn_skip (fin_scope (fin_block (fin_then ?_)))
                  refine fin_loop (j2872, y1934.2, A2873, c2873) hres [0, 1, 0, 0] [] (by kernel_rfl) (by kernel_rfl) (by kernel_rfl)
          · rw [if_neg (of_decide_eq_false c1930)] at hres
            refine rn_exit (fin_then_exit (fin_then_exit (fin_block_exit (fin_next ?_))))
            refine rn_seq ?_
            refine rn_seq ?_
            refine rn_text ?_
            refine ro_q 2 [] [2, 5, 67] [(2, .p 0 0), (5, .p 2 0), (67, .v (.slice A973 x972.length c973))] [] (by kernel_rfl) trivial ?_
            refine bind_elim hres fun y2877 hy2877 hres => ?_
            refine ro_op (by kernel_rfl) (op_call (f := 40) (xs := #[(.tmp 67)]) (ats := #[31]) (d := (some 68)) (args := #[.slice A973 x972.length c973]) (by kernel_rfl) (by kernel_rfl) (by kernel_rfl) (by kernel_rfl) fun w hw => (nack_fault_ok hy2877 (row_at (U := 3) (E := (eI .i64)) (A := A973) (c := c973) (L := x972) 1 (by kernel_rfl)) hw).mono ?_)
            rintro _ w1 ⟨rfl, hw1⟩
            refine ⟨_, [b2, b11, b16], [.a (R_bits_Reader b11 x974), .a (slA 3 (eI .i64) A973 c973 x972), .c 2 [U .u32 y13.1, U .u32 y15.1, .v (.slice A973 x972.length c973)] 80, .c 0 [U .u32 0, U .u32 0, .v (.slice none 0 0)] 80], _, rfl, hw1.eq (by kernel_rfl), rfl, mt_same, ro_fin ?_⟩
            refine ro_q 1 [] [2, 5, 9] [(2, .p 0 0), (5, .p 2 0), (9, I y2877)] [] (by kernel_rfl) trivial ?_
            refine ro_end (by kernel_rfl) (fin_next ?_)
            refine rn_seq ?_
            refine rn_q [] [2, 5, 9, 70] [(2, .p 0 0), (5, .p 2 0), (9, I y2877), (70, B (y2877 != 0))] [] (by kernel_rfl) trivial (fin_next ?_)
            refine rn_cond (y2877 != 0) (by kernel_rfl) (fun c2878 => ?_) (fun c2878 => ?_)
            · rw [if_neg (ne_t c2878)] at hres
              refine rn_seq ?_
              refine rn_text ?_
              refine ro_q 2 [] [2, 71, 72] [(2, .p 0 0), (71, .v (.agg #[.int .u32 0, .int .u32 0, .slice none 0 0])), (72, I y2877)] [] (by kernel_rfl) trivial ?_
              refine ro_op (by kernel_rfl) (op_store 80 (.tmp 2) (.tmp 71) 0 0 (.v (.agg #[.int .u32 0, .int .u32 0, .slice none 0 0])) [.a (R_bits_Reader b11 x974), .a (slA 3 (eI .i64) A973 c973 x972), .c 2 [U .u32 y13.1, U .u32 y15.1, .v (.slice A973 x972.length c973)] 80, .c 0 [U .u32 0, U .u32 0, .v (.slice none 0 0)] 80] (by kernel_rfl) (by kernel_rfl) (by kernel_rfl) (by kernel_rfl) (ro_fin ?_))
              refine ro_q 1 [] [2, 3] [(2, .p 0 0), (3, I y2877)] [] (by kernel_rfl) trivial ?_
              refine ro_end (by kernel_rfl) (fin_next ?_)
              refine rn_ret (fin_then_ret ?_)
              refine fin_nil 3 (eI .i64) ?_
              refine fin_ret [.agg #[.int .u32 0, .int .u32 0, .slice none 0 0], .int .i64 y2877] (by kernel_rfl) fun w' hw' => ?_
              have hq := Option.some.inj hres
              subst hq
              exact ⟨none, 0, rfl, hw'.take (L' := [slA 3 (eI .i64) none 0 []]) [0] [R_bits_Reader b11 x974, slA 3 (eI .i64) A973 c973 x972, cellsA b16 [.int .u32 y13.1, .int .u32 y15.1, .slice A973 x972.length c973] 80, cellsA b2 [.int .u32 0, .int .u32 0, .slice none 0 0] 80] (by kernel_rfl)⟩
            · rw [if_pos (ne_f c2878)] at hres
              refine rn_skip (fin_next ?_)
              refine rn_seq ?_
              refine rn_text ?_
              refine ro_q 1 [] [2, 73] [(2, .p 0 0), (73, .v (.agg #[.int .u32 y13.1, .int .u32 y15.1, .slice A973 x972.length c973]))] [] (by kernel_rfl) trivial ?_
              refine ro_op (by kernel_rfl) (op_store 80 (.tmp 2) (.tmp 73) 0 0 (.v (.agg #[.int .u32 y13.1, .int .u32 y15.1, .slice A973 x972.length c973])) [.a (R_bits_Reader b11 x974), .a (slA 3 (eI .i64) A973 c973 x972), .c 2 [U .u32 y13.1, U .u32 y15.1, .v (.slice A973 x972.length c973)] 80, .c 0 [U .u32 y13.1, U .u32 y15.1, .v (.slice A973 x972.length c973)] 80] (by kernel_rfl) (by kernel_rfl) (by kernel_rfl) (by kernel_rfl) (ro_fin ?_))
              refine ro_q 1 [] [2, 3] [(2, .p 0 0), (3, I 0)] [] (by kernel_rfl) trivial ?_
              refine ro_end (by kernel_rfl) (fin_next ?_)
              refine rn_ret ?_
              refine fin_ret [.agg #[.int .u32 y13.1, .int .u32 y15.1, .slice A973 x972.length c973], .int .i64 0] (by kernel_rfl) fun w' hw' => ?_
              have hq := Option.some.inj hres
              subst hq
              exact ⟨A973, c973, rfl, hw'.take (L' := [slA 3 (eI .i64) A973 c973 x972]) [1] [R_bits_Reader b11 x974, cellsA b16 [.int .u32 y13.1, .int .u32 y15.1, .slice A973 x972.length c973] 80, cellsA b2 [.int .u32 y13.1, .int .u32 y15.1, .slice A973 x972.length c973] 80] (by kernel_rfl)⟩
inductive IF_feed_told where
  | nil
  | c0 (x : S_api_Ccfb)
  | c1 (x : S_api_Twcc)
  | c2 (x : S_api_Nack)
def IFA_feed_told (v : Value) : IF_feed_told → Asn
  | .nil => pureA (v = .nilIface)
  | .c0 x => exA fun (A1 : Option Addr) => exA fun (k1 : Nat) => starsA [pureA (v = .iface 56 (.agg #[.int .u32 x.Sender, .slice A1 x.Blocks.length k1, .int .u32 x.Stamp])), slN 87 n_api_Block A1 k1 x.Blocks]
  | .c1 x => exA fun (A5 : Option Addr) => exA fun (k5 : Nat) => exA fun (A6 : Option Addr) => exA fun (k6 : Nat) => starsA [pureA (v = .iface 58 (.agg #[.int .u32 x.Sender, .int .u32 x.Media, .int .i64 x.First, .int .i64 x.Base, .int .i64 x.Count, .slice A5 x.Status.length k5, .slice A6 x.Deltas.length k6])), slA 3 (eI .i64) A5 k5 x.Status, slA 3 (eI .i64) A6 k6 x.Deltas]
  | .c2 x => exA fun (A2 : Option Addr) => exA fun (k2 : Nat) => starsA [pureA (v = .iface 61 (.agg #[.int .u32 x.Sender, .int .u32 x.Media, .slice A2 x.Lost.length k2])), slA 3 (eI .i64) A2 k2 x.Lost]
theorem IFA_feed_told.out_nil {v : Value} {w0 w : World} {F : List Asn} (h : SH w0 w (IFA_feed_told v .nil :: F)) : v = .nilIface ∧ SH w0 w F := SH.pure.1 h
theorem IFA_feed_told.in_nil : Ent [] [IFA_feed_told .nilIface .nil] := fun _ _ _ h => SH.pure.2 ⟨rfl, h⟩
theorem IFA_feed_told.out0 {v : Value} {x : S_api_Ccfb} {w0 w : World} {F : List Asn} (h : SH w0 w (IFA_feed_told v (.c0 x) :: F)) : ∃ A1 k1, v = .iface 56 (.agg #[.int .u32 x.Sender, .slice A1 x.Blocks.length k1, .int .u32 x.Stamp]) ∧ SH w0 w ([slN 87 n_api_Block A1 k1 x.Blocks] ++ F) := by
  obtain ⟨A1, h⟩ := SH.ex.1 h
  obtain ⟨k1, h⟩ := SH.ex.1 h
  obtain ⟨h1, h⟩ := SH.pure.1 (SH.stars.1 h)
  exact ⟨A1, k1, h1, h⟩
theorem IFA_feed_told.in0 {x : S_api_Ccfb} {A1 : Option Addr} {k1 : Nat} : Ent [slN 87 n_api_Block A1 k1 x.Blocks] [IFA_feed_told (.iface 56 (.agg #[.int .u32 x.Sender, .slice A1 x.Blocks.length k1, .int .u32 x.Stamp])) (.c0 x)] := fun _ _ _ h => SH.ex.2 ⟨_, SH.ex.2 ⟨_, (SH.stars.2 (SH.pure.2 ⟨rfl, h⟩))⟩⟩
theorem IFA_feed_told.out1 {v : Value} {x : S_api_Twcc} {w0 w : World} {F : List Asn} (h : SH w0 w (IFA_feed_told v (.c1 x) :: F)) : ∃ A5 k5 A6 k6, v = .iface 58 (.agg #[.int .u32 x.Sender, .int .u32 x.Media, .int .i64 x.First, .int .i64 x.Base, .int .i64 x.Count, .slice A5 x.Status.length k5, .slice A6 x.Deltas.length k6]) ∧ SH w0 w ([slA 3 (eI .i64) A5 k5 x.Status, slA 3 (eI .i64) A6 k6 x.Deltas] ++ F) := by
  obtain ⟨A5, h⟩ := SH.ex.1 h
  obtain ⟨k5, h⟩ := SH.ex.1 h
  obtain ⟨A6, h⟩ := SH.ex.1 h
  obtain ⟨k6, h⟩ := SH.ex.1 h
  obtain ⟨h1, h⟩ := SH.pure.1 (SH.stars.1 h)
  exact ⟨A5, k5, A6, k6, h1, h⟩
theorem IFA_feed_told.in1 {x : S_api_Twcc} {A5 : Option Addr} {k5 : Nat} {A6 : Option Addr} {k6 : Nat} : Ent [slA 3 (eI .i64) A5 k5 x.Status, slA 3 (eI .i64) A6 k6 x.Deltas] [IFA_feed_told (.iface 58 (.agg #[.int .u32 x.Sender, .int .u32 x.Media, .int .i64 x.First, .int .i64 x.Base, .int .i64 x.Count, .slice A5 x.Status.length k5, .slice A6 x.Deltas.length k6])) (.c1 x)] := fun _ _ _ h => SH.ex.2 ⟨_, SH.ex.2 ⟨_, SH.ex.2 ⟨_, SH.ex.2 ⟨_, (SH.stars.2 (SH.pure.2 ⟨rfl, h⟩))⟩⟩⟩⟩
theorem IFA_feed_told.out2 {v : Value} {x : S_api_Nack} {w0 w : World} {F : List Asn} (h : SH w0 w (IFA_feed_told v (.c2 x) :: F)) : ∃ A2 k2, v = .iface 61 (.agg #[.int .u32 x.Sender, .int .u32 x.Media, .slice A2 x.Lost.length k2]) ∧ SH w0 w ([slA 3 (eI .i64) A2 k2 x.Lost] ++ F) := by
  obtain ⟨A2, h⟩ := SH.ex.1 h
  obtain ⟨k2, h⟩ := SH.ex.1 h
  obtain ⟨h1, h⟩ := SH.pure.1 (SH.stars.1 h)
  exact ⟨A2, k2, h1, h⟩
theorem IFA_feed_told.in2 {x : S_api_Nack} {A2 : Option Addr} {k2 : Nat} : Ent [slA 3 (eI .i64) A2 k2 x.Lost] [IFA_feed_told (.iface 61 (.agg #[.int .u32 x.Sender, .int .u32 x.Media, .slice A2 x.Lost.length k2])) (.c2 x)] := fun _ _ _ h => SH.ex.2 ⟨_, SH.ex.2 ⟨_, (SH.stars.2 (SH.pure.2 ⟨rfl, h⟩))⟩⟩
/- 12 flywheel/feed.decoded -/
def feed_decoded (a1 : S_api_Part) : Option (IF_feed_told × Int) :=
  (if a1.Type_ = 205 then (if a1.Count = 11 then (ccfb_Decode a1.Body).bind fun y6 =>
  some ((.c0 y6.1), y6.2) else (if a1.Count = 15 then (twcc_Decode a1.Body).bind fun y11 =>
  some ((.c1 y11.1), y11.2) else (if a1.Count = 1 then (nack_Decode a1.Body).bind fun y17 =>
  some ((.c2 y17.1), y17.2) else some (.nil, 0)))) else some (.nil, 0))
theorem feed_decoded_ok {a1 : S_api_Part} {r : IF_feed_told × Int} (hres : feed_decoded a1 = some r) {w0 w : World} {F : List Asn} (hw : SH w0 w (F)) :
    Calls Try.prog 12 #[.agg #[.int .i64 a1.Count, .int .i64 a1.Type_, .string a1.Body]] w fun e w' => ∃ p20, e = .returned (.tuple #[p20, .int .i64 r.2]) ∧ SH w0 w' ([IFA_feed_told p20 r.1] ++ F) := by
  refine fw_enter (n := 48) (bs := []) (env := [(0, .v (.agg #[.int .i64 a1.Count, .int .i64 a1.Type_, .string a1.Body]))]) (H := []) (F := F) Try.func12 rfl (by kernel_rfl) (by kernel_rfl) (by kernel_rfl) (hw.eq (by kernel_rfl)) ?_
  unfold feed_decoded at hres
  refine rn_seq ?_
  refine rn_text ?_
  refine ro_op (by kernel_rfl) (op_box 27 (.tmp 0) (.v (.agg #[.int .i64 a1.Count, .int .i64 a1.Type_, .string a1.Body])) 1 [I a1.Count, I a1.Type_, S a1.Body] (fun b2 => [b2]) (fun b2 => [.c 0 [I a1.Count, I a1.Type_, S a1.Body] 27]) (by kernel_rfl) (by kernel_rfl) (by kernel_rfl) (by kernel_rfl) 0 (fun _ => by kernel_rfl) (fun _ => mt_bs (by kernel_rfl)) (fun _ => by kernel_rfl) (fun b2 => ro_fin ?_))
  refine ro_q 2 [] [1] [(1, .p 0 0)] [] (by kernel_rfl) trivial ?_
  refine ro_end (by kernel_rfl) (fin_next ?_)
  refine rn_seq ?_
  refine rn_seq ?_
  refine rn_q [] [1, 12] [(1, .p 0 0), (12, B (a1.Type_ != 205))] [] (by kernel_rfl) trivial (fin_next ?_)
  refine rn_cond (a1.Type_ != 205) (by kernel_rfl) (fun c3 => ?_) (fun c3 => ?_)
  · rw [if_neg (ne_t c3)] at hres
    refine rn_seq ?_
    refine rn_q [] [2, 3] [(2, .v (.nilIface)), (3, I 0)] [] (by kernel_rfl) trivial (fin_next ?_)
    refine rn_ret (fin_then_ret ?_)
    refine fin_fold [.a (IFA_feed_told .nilIface .nil), .c 0 [I a1.Count, I a1.Type_, S a1.Body] 27] (fun w hw => ((IFA_feed_told.in_nil) _ _ _ (hw.sel (L' := [] ++ ([cellsA b2 [.int .i64 a1.Count, .int .i64 a1.Type_, .string a1.Body] 27] ++ F)) [] (by kernel_rfl))).eq (by kernel_rfl)) ?_
    refine fin_ret [.nilIface, .int .i64 0] (by kernel_rfl) fun w' hw' => ?_
    have hq := Option.some.inj hres
    subst hq
    exact ⟨.nilIface, rfl, hw'.take (L' := [IFA_feed_told .nilIface .nil]) [0] [cellsA b2 [.int .i64 a1.Count, .int .i64 a1.Type_, .string a1.Body] 27] (by kernel_rfl)⟩
  · rw [if_pos (ne_f c3)] at hres
    refine rn_skip (fin_next ?_)
    refine rn_seq ?_
    refine rn_seq ?_
    refine rn_q [] [1, 14] [(1, .p 0 0), (14, I a1.Count)] [] (by kernel_rfl) trivial (fin_next ?_)
    refine rn_block ?_
    refine rn_seq ?_
    refine rn_q [] [1, 14, 15] [(1, .p 0 0), (14, I a1.Count), (15, B (a1.Count == 11))] [] (by kernel_rfl) trivial (fin_next ?_)
    refine rn_cond (a1.Count == 11) (by kernel_rfl) (fun c4 => ?_) (fun c4 => ?_)
    · rw [if_pos (eq_t c4)] at hres
      refine rn_seq ?_
      refine rn_text ?_
      refine ro_q 2 [] [19] [(19, S a1.Body)] [] (by kernel_rfl) trivial ?_
      refine bind_elim hres fun y6 hy6 hres => ?_
      refine ro_op (by kernel_rfl) (op_call (f := 25) (xs := #[(.tmp 19)]) (ats := #[9]) (d := (some 20)) (args := #[.string a1.Body]) (by kernel_rfl) (by kernel_rfl) (by kernel_rfl) (by kernel_rfl) fun w hw => (ccfb_Decode_ok hy6 hw).mono ?_)
      rintro _ w1 ⟨A7, k7, rfl, hw1⟩
      refine ⟨_, [b2], [.a (slN 87 n_api_Block A7 k7 y6.1.Blocks), .c 0 [I a1.Count, I a1.Type_, S a1.Body] 27], _, rfl, hw1.eq (by kernel_rfl), rfl, mt_same, ro_fin ?_⟩
      refine ro_q 3 [] [21, 22] [(21, .v (.agg #[.int .u32 y6.1.Sender, .slice A7 y6.1.Blocks.length k7, .int .u32 y6.1.Stamp])), (22, I y6.2)] [] (by kernel_rfl) trivial ?_
      refine ro_op (by kernel_rfl) (op_alloc 75 4 (.agg #[.int .u32 0, .slice none 0 0, .int .u32 0]) [U .u32 0, .v (.slice none 0 0), U .u32 0] (fun b8 => [b2, b8]) (fun b8 => [.c 1 [U .u32 0, .v (.slice none 0 0), U .u32 0] 75, .a (slN 87 n_api_Block A7 k7 y6.1.Blocks), .c 0 [I a1.Count, I a1.Type_, S a1.Body] 27]) (by kernel_rfl) (by kernel_rfl) (by kernel_rfl) (by kernel_rfl) 1 (fun _ => by kernel_rfl) (fun _ => mt_bs (by kernel_rfl)) (fun _ => by kernel_rfl) (fun b8 => ro_fin ?_))
      refine ro_op (by kernel_rfl) (op_store 75 (.tmp 4) (.tmp 21) 1 0 (.v (.agg #[.int .u32 y6.1.Sender, .slice A7 y6.1.Blocks.length k7, .int .u32 y6.1.Stamp])) [.c 1 [U .u32 y6.1.Sender, .v (.slice A7 y6.1.Blocks.length k7), U .u32 y6.1.Stamp] 75, .a (slN 87 n_api_Block A7 k7 y6.1.Blocks), .c 0 [I a1.Count, I a1.Type_, S a1.Body] 27] (by kernel_rfl) (by kernel_rfl) (by kernel_rfl) (by kernel_rfl) (ro_fin ?_))
      refine ro_q 1 [] [4, 5] [(4, .p 1 0), (5, I y6.2)] [] (by kernel_rfl) trivial ?_
      refine ro_end (by kernel_rfl) (fin_next ?_)
      refine rn_seq ?_
      refine rn_q [] [2, 3] [(2, .v (.iface 56 (.agg #[.int .u32 y6.1.Sender, .slice A7 y6.1.Blocks.length k7, .int .u32 y6.1.Stamp]))), (3, I y6.2)] [] (by kernel_rfl) trivial (fin_next ?_)
      refine rn_ret (fin_block_ret (fin_then_ret ?_))
      refine fin_fold [.a (IFA_feed_told (.iface 56 (.agg #[.int .u32 y6.1.Sender, .slice A7 y6.1.Blocks.length k7, .int .u32 y6.1.Stamp])) (.c0 y6.1)), .c 1 [U .u32 y6.1.Sender, .v (.slice A7 y6.1.Blocks.length k7), U .u32 y6.1.Stamp] 75, .c 0 [I a1.Count, I a1.Type_, S a1.Body] 27] (fun w hw => ((IFA_feed_told.in0 (x := y6.1)) _ _ _ (hw.sel (L' := [slN 87 n_api_Block A7 k7 y6.1.Blocks] ++ ([cellsA b8 [.int .u32 y6.1.Sender, .slice A7 y6.1.Blocks.length k7, .int .u32 y6.1.Stamp] 75, cellsA b2 [.int .i64 a1.Count, .int .i64 a1.Type_, .string a1.Body] 27] ++ F)) [1] (by kernel_rfl))).eq (by kernel_rfl)) ?_
      refine fin_ret [.iface 56 (.agg #[.int .u32 y6.1.Sender, .slice A7 y6.1.Blocks.length k7, .int .u32 y6.1.Stamp]), .int .i64 y6.2] (by kernel_rfl) fun w' hw' => ?_
      have hq := Option.some.inj hres
      subst hq
      exact ⟨(.iface 56 (.agg #[.int .u32 y6.1.Sender, .slice A7 y6.1.Blocks.length k7, .int .u32 y6.1.Stamp])), rfl, hw'.take (L' := [IFA_feed_told (.iface 56 (.agg #[.int .u32 y6.1.Sender, .slice A7 y6.1.Blocks.length k7, .int .u32 y6.1.Stamp])) (.c0 y6.1)]) [0] [cellsA b8 [.int .u32 y6.1.Sender, .slice A7 y6.1.Blocks.length k7, .int .u32 y6.1.Stamp] 75, cellsA b2 [.int .i64 a1.Count, .int .i64 a1.Type_, .string a1.Body] 27] (by kernel_rfl)⟩
    · rw [if_neg (eq_f c4)] at hres
      refine rn_seq ?_
      refine rn_q [] [1, 14, 26] [(1, .p 0 0), (14, I a1.Count), (26, B (a1.Count == 15))] [] (by kernel_rfl) trivial (fin_next ?_)
      refine rn_cond (a1.Count == 15) (by kernel_rfl) (fun c9 => ?_) (fun c9 => ?_)
      · rw [if_pos (eq_t c9)] at hres
        refine rn_seq ?_
        refine rn_text ?_
        refine ro_q 2 [] [30] [(30, S a1.Body)] [] (by kernel_rfl) trivial ?_
        refine bind_elim hres fun y11 hy11 hres => ?_
        refine ro_op (by kernel_rfl) (op_call (f := 26) (xs := #[(.tmp 30)]) (ats := #[9]) (d := (some 31)) (args := #[.string a1.Body]) (by kernel_rfl) (by kernel_rfl) (by kernel_rfl) (by kernel_rfl) fun w hw => (twcc_Decode_ok hy11 hw).mono ?_)
        rintro _ w1 ⟨A12, k12, A13, k13, rfl, hw1⟩
        refine ⟨_, [b2], [.a (slA 3 (eI .i64) A12 k12 y11.1.Status), .a (slA 3 (eI .i64) A13 k13 y11.1.Deltas), .c 0 [I a1.Count, I a1.Type_, S a1.Body] 27], _, rfl, hw1.eq (by kernel_rfl), rfl, mt_same, ro_fin ?_⟩
        refine ro_q 3 [] [32, 33] [(32, .v (.agg #[.int .u32 y11.1.Sender, .int .u32 y11.1.Media, .int .i64 y11.1.First, .int .i64 y11.1.Base, .int .i64 y11.1.Count, .slice A12 y11.1.Status.length k12, .slice A13 y11.1.Deltas.length k13])), (33, I y11.2)] [] (by kernel_rfl) trivial ?_
        refine ro_op (by kernel_rfl) (op_alloc 43 6 (.agg #[.int .u32 0, .int .u32 0, .int .i64 0, .int .i64 0, .int .i64 0, .slice none 0 0, .slice none 0 0]) [U .u32 0, U .u32 0, I 0, I 0, I 0, .v (.slice none 0 0), .v (.slice none 0 0)] (fun b14 => [b2, b14]) (fun b14 => [.c 1 [U .u32 0, U .u32 0, I 0, I 0, I 0, .v (.slice none 0 0), .v (.slice none 0 0)] 43, .a (slA 3 (eI .i64) A12 k12 y11.1.Status), .a (slA 3 (eI .i64) A13 k13 y11.1.Deltas), .c 0 [I a1.Count, I a1.Type_, S a1.Body] 27]) (by kernel_rfl) (by kernel_rfl) (by kernel_rfl) (by kernel_rfl) 1 (fun _ => by kernel_rfl) (fun _ => mt_bs (by kernel_rfl)) (fun _ => by kernel_rfl) (fun b14 => ro_fin ?_))
        refine ro_op (by kernel_rfl) (op_store 43 (.tmp 6) (.tmp 32) 1 0 (.v (.agg #[.int .u32 y11.1.Sender, .int .u32 y11.1.Media, .int .i64 y11.1.First, .int .i64 y11.1.Base, .int .i64 y11.1.Count, .slice A12 y11.1.Status.length k12, .slice A13 y11.1.Deltas.length k13])) [.c 1 [U .u32 y11.1.Sender, U .u32 y11.1.Media, I y11.1.First, I y11.1.Base, I y11.1.Count, .v (.slice A12 y11.1.Status.length k12), .v (.slice A13 y11.1.Deltas.length k13)] 43, .a (slA 3 (eI .i64) A12 k12 y11.1.Status), .a (slA 3 (eI .i64) A13 k13 y11.1.Deltas), .c 0 [I a1.Count, I a1.Type_, S a1.Body] 27] (by kernel_rfl) (by kernel_rfl) (by kernel_rfl) (by kernel_rfl) (ro_fin ?_))
        refine ro_q 1 [] [6, 7] [(6, .p 1 0), (7, I y11.2)] [] (by kernel_rfl) trivial ?_
        refine ro_end (by kernel_rfl) (fin_next ?_)
        refine rn_seq ?_
        refine rn_q [] [2, 3] [(2, .v (.iface 58 (.agg #[.int .u32 y11.1.Sender, .int .u32 y11.1.Media, .int .i64 y11.1.First, .int .i64 y11.1.Base, .int .i64 y11.1.Count, .slice A12 y11.1.Status.length k12, .slice A13 y11.1.Deltas.length k13]))), (3, I y11.2)] [] (by kernel_rfl) trivial (fin_next ?_)
        refine rn_ret (fin_block_ret (fin_then_ret ?_))
        refine fin_fold [.a (IFA_feed_told (.iface 58 (.agg #[.int .u32 y11.1.Sender, .int .u32 y11.1.Media, .int .i64 y11.1.First, .int .i64 y11.1.Base, .int .i64 y11.1.Count, .slice A12 y11.1.Status.length k12, .slice A13 y11.1.Deltas.length k13])) (.c1 y11.1)), .c 1 [U .u32 y11.1.Sender, U .u32 y11.1.Media, I y11.1.First, I y11.1.Base, I y11.1.Count, .v (.slice A12 y11.1.Status.length k12), .v (.slice A13 y11.1.Deltas.length k13)] 43, .c 0 [I a1.Count, I a1.Type_, S a1.Body] 27] (fun w hw => ((IFA_feed_told.in1 (x := y11.1)) _ _ _ (hw.sel (L' := [slA 3 (eI .i64) A12 k12 y11.1.Status, slA 3 (eI .i64) A13 k13 y11.1.Deltas] ++ ([cellsA b14 [.int .u32 y11.1.Sender, .int .u32 y11.1.Media, .int .i64 y11.1.First, .int .i64 y11.1.Base, .int .i64 y11.1.Count, .slice A12 y11.1.Status.length k12, .slice A13 y11.1.Deltas.length k13] 43, cellsA b2 [.int .i64 a1.Count, .int .i64 a1.Type_, .string a1.Body] 27] ++ F)) [1, 1] (by kernel_rfl))).eq (by kernel_rfl)) ?_
        refine fin_ret [.iface 58 (.agg #[.int .u32 y11.1.Sender, .int .u32 y11.1.Media, .int .i64 y11.1.First, .int .i64 y11.1.Base, .int .i64 y11.1.Count, .slice A12 y11.1.Status.length k12, .slice A13 y11.1.Deltas.length k13]), .int .i64 y11.2] (by kernel_rfl) fun w' hw' => ?_
        have hq := Option.some.inj hres
        subst hq
        exact ⟨(.iface 58 (.agg #[.int .u32 y11.1.Sender, .int .u32 y11.1.Media, .int .i64 y11.1.First, .int .i64 y11.1.Base, .int .i64 y11.1.Count, .slice A12 y11.1.Status.length k12, .slice A13 y11.1.Deltas.length k13])), rfl, hw'.take (L' := [IFA_feed_told (.iface 58 (.agg #[.int .u32 y11.1.Sender, .int .u32 y11.1.Media, .int .i64 y11.1.First, .int .i64 y11.1.Base, .int .i64 y11.1.Count, .slice A12 y11.1.Status.length k12, .slice A13 y11.1.Deltas.length k13])) (.c1 y11.1)]) [0] [cellsA b14 [.int .u32 y11.1.Sender, .int .u32 y11.1.Media, .int .i64 y11.1.First, .int .i64 y11.1.Base, .int .i64 y11.1.Count, .slice A12 y11.1.Status.length k12, .slice A13 y11.1.Deltas.length k13] 43, cellsA b2 [.int .i64 a1.Count, .int .i64 a1.Type_, .string a1.Body] 27] (by kernel_rfl)⟩
      · rw [if_neg (eq_f c9)] at hres
        refine rn_seq ?_
        refine rn_q [] [1, 37] [(1, .p 0 0), (37, B (a1.Count == 1))] [] (by kernel_rfl) trivial (fin_next ?_)
        refine rn_cond (a1.Count == 1) (by kernel_rfl) (fun c15 => ?_) (fun c15 => ?_)
        · rw [if_pos (eq_t c15)] at hres
          refine rn_seq ?_
          refine rn_text ?_
          refine ro_q 2 [] [41] [(41, S a1.Body)] [] (by kernel_rfl) trivial ?_
          refine bind_elim hres fun y17 hy17 hres => ?_
          refine ro_op (by kernel_rfl) (op_call (f := 27) (xs := #[(.tmp 41)]) (ats := #[9]) (d := (some 42)) (args := #[.string a1.Body]) (by kernel_rfl) (by kernel_rfl) (by kernel_rfl) (by kernel_rfl) fun w hw => (nack_Decode_ok hy17 hw).mono ?_)
          rintro _ w1 ⟨A18, k18, rfl, hw1⟩
          refine ⟨_, [b2], [.a (slA 3 (eI .i64) A18 k18 y17.1.Lost), .c 0 [I a1.Count, I a1.Type_, S a1.Body] 27], _, rfl, hw1.eq (by kernel_rfl), rfl, mt_same, ro_fin ?_⟩
          refine ro_q 3 [] [43, 44] [(43, .v (.agg #[.int .u32 y17.1.Sender, .int .u32 y17.1.Media, .slice A18 y17.1.Lost.length k18])), (44, I y17.2)] [] (by kernel_rfl) trivial ?_
          refine ro_op (by kernel_rfl) (op_alloc 80 8 (.agg #[.int .u32 0, .int .u32 0, .slice none 0 0]) [U .u32 0, U .u32 0, .v (.slice none 0 0)] (fun b19 => [b2, b19]) (fun b19 => [.c 1 [U .u32 0, U .u32 0, .v (.slice none 0 0)] 80, .a (slA 3 (eI .i64) A18 k18 y17.1.Lost), .c 0 [I a1.Count, I a1.Type_, S a1.Body] 27]) (by kernel_rfl) (by kernel_rfl) (by kernel_rfl) (by kernel_rfl) 1 (fun _ => by kernel_rfl) (fun _ => mt_bs (by kernel_rfl)) (fun _ => by kernel_rfl) (fun b19 => ro_fin ?_))
          refine ro_op (by kernel_rfl) (op_store 80 (.tmp 8) (.tmp 43) 1 0 (.v (.agg #[.int .u32 y17.1.Sender, .int .u32 y17.1.Media, .slice A18 y17.1.Lost.length k18])) [.c 1 [U .u32 y17.1.Sender, U .u32 y17.1.Media, .v (.slice A18 y17.1.Lost.length k18)] 80, .a (slA 3 (eI .i64) A18 k18 y17.1.Lost), .c 0 [I a1.Count, I a1.Type_, S a1.Body] 27] (by kernel_rfl) (by kernel_rfl) (by kernel_rfl) (by kernel_rfl) (ro_fin ?_))
          refine ro_q 1 [] [8, 9] [(8, .p 1 0), (9, I y17.2)] [] (by kernel_rfl) trivial ?_
          refine ro_end (by kernel_rfl) (fin_next ?_)
          refine rn_seq ?_
          refine rn_q [] [2, 3] [(2, .v (.iface 61 (.agg #[.int .u32 y17.1.Sender, .int .u32 y17.1.Media, .slice A18 y17.1.Lost.length k18]))), (3, I y17.2)] [] (by kernel_rfl) trivial (fin_next ?_)
          refine rn_ret (fin_block_ret (fin_then_ret ?_))
          refine fin_fold [.a (IFA_feed_told (.iface 61 (.agg #[.int .u32 y17.1.Sender, .int .u32 y17.1.Media, .slice A18 y17.1.Lost.length k18])) (.c2 y17.1)), .c 1 [U .u32 y17.1.Sender, U .u32 y17.1.Media, .v (.slice A18 y17.1.Lost.length k18)] 80, .c 0 [I a1.Count, I a1.Type_, S a1.Body] 27] (fun w hw => ((IFA_feed_told.in2 (x := y17.1)) _ _ _ (hw.sel (L' := [slA 3 (eI .i64) A18 k18 y17.1.Lost] ++ ([cellsA b19 [.int .u32 y17.1.Sender, .int .u32 y17.1.Media, .slice A18 y17.1.Lost.length k18] 80, cellsA b2 [.int .i64 a1.Count, .int .i64 a1.Type_, .string a1.Body] 27] ++ F)) [1] (by kernel_rfl))).eq (by kernel_rfl)) ?_
          refine fin_ret [.iface 61 (.agg #[.int .u32 y17.1.Sender, .int .u32 y17.1.Media, .slice A18 y17.1.Lost.length k18]), .int .i64 y17.2] (by kernel_rfl) fun w' hw' => ?_
          have hq := Option.some.inj hres
          subst hq
          exact ⟨(.iface 61 (.agg #[.int .u32 y17.1.Sender, .int .u32 y17.1.Media, .slice A18 y17.1.Lost.length k18])), rfl, hw'.take (L' := [IFA_feed_told (.iface 61 (.agg #[.int .u32 y17.1.Sender, .int .u32 y17.1.Media, .slice A18 y17.1.Lost.length k18])) (.c2 y17.1)]) [0] [cellsA b19 [.int .u32 y17.1.Sender, .int .u32 y17.1.Media, .slice A18 y17.1.Lost.length k18] 80, cellsA b2 [.int .i64 a1.Count, .int .i64 a1.Type_, .string a1.Body] 27] (by kernel_rfl)⟩
        · rw [if_neg (eq_f c15)] at hres
          refine rn_skip (fin_block (fin_next ?_))
          refine rn_seq ?_
          refine rn_q [] [2, 3] [(2, .v (.nilIface)), (3, I 0)] [] (by kernel_rfl) trivial (fin_next ?_)
          refine rn_ret ?_
          refine fin_fold [.a (IFA_feed_told .nilIface .nil), .c 0 [I a1.Count, I a1.Type_, S a1.Body] 27] (fun w hw => ((IFA_feed_told.in_nil) _ _ _ (hw.sel (L' := [] ++ ([cellsA b2 [.int .i64 a1.Count, .int .i64 a1.Type_, .string a1.Body] 27] ++ F)) [] (by kernel_rfl))).eq (by kernel_rfl)) ?_
          refine fin_ret [.nilIface, .int .i64 0] (by kernel_rfl) fun w' hw' => ?_
          have hq := Option.some.inj hres
          subst hq
          exact ⟨.nilIface, rfl, hw'.take (L' := [IFA_feed_told .nilIface .nil]) [0] [cellsA b2 [.int .i64 a1.Count, .int .i64 a1.Type_, .string a1.Body] 27] (by kernel_rfl)⟩
/- 47 math/bits.Mul64 -/
def math_bits_Mul64 (a1 : Int) (a2 : Int) : Option (Int × Int) :=
  some (IntKind.wrap .u64 ((IntKind.wrap .u64 ((IntKind.wrap .u64 ((a1.fdiv 4294967296) * (a2.fdiv 4294967296))) + ((IntKind.wrap .u64 ((IntKind.wrap .u64 ((a1.fdiv 4294967296) * (bAnd .u64 a2 4294967295))) + ((IntKind.wrap .u64 ((bAnd .u64 a1 4294967295) * (bAnd .u64 a2 4294967295))).fdiv 4294967296))).fdiv 4294967296))) + ((IntKind.wrap .u64 ((bAnd .u64 (IntKind.wrap .u64 ((IntKind.wrap .u64 ((a1.fdiv 4294967296) * (bAnd .u64 a2 4294967295))) + ((IntKind.wrap .u64 ((bAnd .u64 a1 4294967295) * (bAnd .u64 a2 4294967295))).fdiv 4294967296))) 4294967295) + (IntKind.wrap .u64 ((bAnd .u64 a1 4294967295) * (a2.fdiv 4294967296))))).fdiv 4294967296)), IntKind.wrap .u64 (a1 * a2))
theorem math_bits_Mul64_ok {a1 : Int} {a2 : Int} {r : Int × Int} (hres : math_bits_Mul64 a1 a2 = some r) {w0 w : World} {F : List Asn} (hw : SH w0 w (F)) :
    Calls Try.prog 47 #[.int .u64 a1, .int .u64 a2] w fun e w' => e = .returned (.tuple #[.int .u64 r.1, .int .u64 r.2]) ∧ SH w0 w' (F) := by
  refine fw_enter (n := 51) (bs := []) (env := [(0, U .u64 a1), (1, U .u64 a2)]) (H := []) (F := F) Try.func47 rfl (by kernel_rfl) (by kernel_rfl) (by kernel_rfl) (hw.eq (by kernel_rfl)) ?_
  unfold math_bits_Mul64 at hres
  refine rn_seq ?_
  refine rn_q [] [0, 1] [(0, U .u64 a1), (1, U .u64 a2)] [] (by kernel_rfl) trivial (fin_next ?_)
  refine rn_seq ?_
  refine rn_q [] [0, 1, 6] [(0, U .u64 a1), (1, U .u64 a2), (6, U .u64 (bAnd .u64 a1 4294967295))] [] (by kernel_rfl) trivial (fin_next ?_)
  refine rn_seq ?_
  refine rn_q [] [0, 1, 6, 7] [(0, U .u64 a1), (1, U .u64 a2), (6, U .u64 (bAnd .u64 a1 4294967295)), (7, U .u64 (a1.fdiv 4294967296))] [] (by kernel_rfl) trivial (fin_next ?_)
  refine rn_seq ?_
  refine rn_q [] [0, 1, 6, 7, 8] [(0, U .u64 a1), (1, U .u64 a2), (6, U .u64 (bAnd .u64 a1 4294967295)), (7, U .u64 (a1.fdiv 4294967296)), (8, U .u64 (bAnd .u64 a2 4294967295))] [] (by kernel_rfl) trivial (fin_next ?_)
  refine rn_seq ?_
  refine rn_q [] [0, 1, 6, 7, 8, 9] [(0, U .u64 a1), (1, U .u64 a2), (6, U .u64 (bAnd .u64 a1 4294967295)), (7, U .u64 (a1.fdiv 4294967296)), (8, U .u64 (bAnd .u64 a2 4294967295)), (9, U .u64 (a2.fdiv 4294967296))] [] (by kernel_rfl) trivial (fin_next ?_)
  refine rn_seq ?_
  refine rn_q [] [0, 1, 6, 7, 8, 9, 10] [(0, U .u64 a1), (1, U .u64 a2), (6, U .u64 (bAnd .u64 a1 4294967295)), (7, U .u64 (a1.fdiv 4294967296)), (8, U .u64 (bAnd .u64 a2 4294967295)), (9, U .u64 (a2.fdiv 4294967296)), (10, U .u64 (IntKind.wrap .u64 ((bAnd .u64 a1 4294967295) * (bAnd .u64 a2 4294967295))))] [] (by kernel_rfl) trivial (fin_next ?_)
  refine rn_seq ?_
  refine rn_q [] [0, 1, 6, 7, 9, 11] [(0, U .u64 a1), (1, U .u64 a2), (6, U .u64 (bAnd .u64 a1 4294967295)), (7, U .u64 (a1.fdiv 4294967296)), (9, U .u64 (a2.fdiv 4294967296)), (11, U .u64 (IntKind.wrap .u64 ((IntKind.wrap .u64 ((a1.fdiv 4294967296) * (bAnd .u64 a2 4294967295))) + ((IntKind.wrap .u64 ((bAnd .u64 a1 4294967295) * (bAnd .u64 a2 4294967295))).fdiv 4294967296))))] [] (by kernel_rfl) trivial (fin_next ?_)
  refine rn_seq ?_
  refine rn_q [] [0, 1, 6, 7, 9, 11, 12] [(0, U .u64 a1), (1, U .u64 a2), (6, U .u64 (bAnd .u64 a1 4294967295)), (7, U .u64 (a1.fdiv 4294967296)), (9, U .u64 (a2.fdiv 4294967296)), (11, U .u64 (IntKind.wrap .u64 ((IntKind.wrap .u64 ((a1.fdiv 4294967296) * (bAnd .u64 a2 4294967295))) + ((IntKind.wrap .u64 ((bAnd .u64 a1 4294967295) * (bAnd .u64 a2 4294967295))).fdiv 4294967296)))), (12, U .u64 (bAnd .u64 (IntKind.wrap .u64 ((IntKind.wrap .u64 ((a1.fdiv 4294967296) * (bAnd .u64 a2 4294967295))) + ((IntKind.wrap .u64 ((bAnd .u64 a1 4294967295) * (bAnd .u64 a2 4294967295))).fdiv 4294967296))) 4294967295))] [] (by kernel_rfl) trivial (fin_next ?_)
  refine rn_seq ?_
  refine rn_q [] [0, 1, 6, 7, 9, 12, 13] [(0, U .u64 a1), (1, U .u64 a2), (6, U .u64 (bAnd .u64 a1 4294967295)), (7, U .u64 (a1.fdiv 4294967296)), (9, U .u64 (a2.fdiv 4294967296)), (12, U .u64 (bAnd .u64 (IntKind.wrap .u64 ((IntKind.wrap .u64 ((a1.fdiv 4294967296) * (bAnd .u64 a2 4294967295))) + ((IntKind.wrap .u64 ((bAnd .u64 a1 4294967295) * (bAnd .u64 a2 4294967295))).fdiv 4294967296))) 4294967295)), (13, U .u64 ((IntKind.wrap .u64 ((IntKind.wrap .u64 ((a1.fdiv 4294967296) * (bAnd .u64 a2 4294967295))) + ((IntKind.wrap .u64 ((bAnd .u64 a1 4294967295) * (bAnd .u64 a2 4294967295))).fdiv 4294967296))).fdiv 4294967296))] [] (by kernel_rfl) trivial (fin_next ?_)
  refine rn_seq ?_
  refine rn_q [] [0, 1, 7, 9, 12, 13] [(0, U .u64 a1), (1, U .u64 a2), (7, U .u64 (a1.fdiv 4294967296)), (9, U .u64 (a2.fdiv 4294967296)), (12, U .u64 (IntKind.wrap .u64 ((bAnd .u64 (IntKind.wrap .u64 ((IntKind.wrap .u64 ((a1.fdiv 4294967296) * (bAnd .u64 a2 4294967295))) + ((IntKind.wrap .u64 ((bAnd .u64 a1 4294967295) * (bAnd .u64 a2 4294967295))).fdiv 4294967296))) 4294967295) + (IntKind.wrap .u64 ((bAnd .u64 a1 4294967295) * (a2.fdiv 4294967296)))))), (13, U .u64 ((IntKind.wrap .u64 ((IntKind.wrap .u64 ((a1.fdiv 4294967296) * (bAnd .u64 a2 4294967295))) + ((IntKind.wrap .u64 ((bAnd .u64 a1 4294967295) * (bAnd .u64 a2 4294967295))).fdiv 4294967296))).fdiv 4294967296))] [] (by kernel_rfl) trivial (fin_next ?_)
  refine rn_seq ?_
  refine rn_q [] [0, 1, 4] [(0, U .u64 a1), (1, U .u64 a2), (4, U .u64 (IntKind.wrap .u64 ((IntKind.wrap .u64 ((IntKind.wrap .u64 ((a1.fdiv 4294967296) * (a2.fdiv 4294967296))) + ((IntKind.wrap .u64 ((IntKind.wrap .u64 ((a1.fdiv 4294967296) * (bAnd .u64 a2 4294967295))) + ((IntKind.wrap .u64 ((bAnd .u64 a1 4294967295) * (bAnd .u64 a2 4294967295))).fdiv 4294967296))).fdiv 4294967296))) + ((IntKind.wrap .u64 ((bAnd .u64 (IntKind.wrap .u64 ((IntKind.wrap .u64 ((a1.fdiv 4294967296) * (bAnd .u64 a2 4294967295))) + ((IntKind.wrap .u64 ((bAnd .u64 a1 4294967295) * (bAnd .u64 a2 4294967295))).fdiv 4294967296))) 4294967295) + (IntKind.wrap .u64 ((bAnd .u64 a1 4294967295) * (a2.fdiv 4294967296))))).fdiv 4294967296))))] [] (by kernel_rfl) trivial (fin_next ?_)
  refine rn_seq ?_
  refine rn_q [] [4, 5] [(4, U .u64 (IntKind.wrap .u64 ((IntKind.wrap .u64 ((IntKind.wrap .u64 ((a1.fdiv 4294967296) * (a2.fdiv 4294967296))) + ((IntKind.wrap .u64 ((IntKind.wrap .u64 ((a1.fdiv 4294967296) * (bAnd .u64 a2 4294967295))) + ((IntKind.wrap .u64 ((bAnd .u64 a1 4294967295) * (bAnd .u64 a2 4294967295))).fdiv 4294967296))).fdiv 4294967296))) + ((IntKind.wrap .u64 ((bAnd .u64 (IntKind.wrap .u64 ((IntKind.wrap .u64 ((a1.fdiv 4294967296) * (bAnd .u64 a2 4294967295))) + ((IntKind.wrap .u64 ((bAnd .u64 a1 4294967295) * (bAnd .u64 a2 4294967295))).fdiv 4294967296))) 4294967295) + (IntKind.wrap .u64 ((bAnd .u64 a1 4294967295) * (a2.fdiv 4294967296))))).fdiv 4294967296)))), (5, U .u64 (IntKind.wrap .u64 (a1 * a2)))] [] (by kernel_rfl) trivial (fin_next ?_)
  refine rn_ret ?_
  refine fin_ret [.int .u64 (IntKind.wrap .u64 ((IntKind.wrap .u64 ((IntKind.wrap .u64 ((a1.fdiv 4294967296) * (a2.fdiv 4294967296))) + ((IntKind.wrap .u64 ((IntKind.wrap .u64 ((a1.fdiv 4294967296) * (bAnd .u64 a2 4294967295))) + ((IntKind.wrap .u64 ((bAnd .u64 a1 4294967295) * (bAnd .u64 a2 4294967295))).fdiv 4294967296))).fdiv 4294967296))) + ((IntKind.wrap .u64 ((bAnd .u64 (IntKind.wrap .u64 ((IntKind.wrap .u64 ((a1.fdiv 4294967296) * (bAnd .u64 a2 4294967295))) + ((IntKind.wrap .u64 ((bAnd .u64 a1 4294967295) * (bAnd .u64 a2 4294967295))).fdiv 4294967296))) 4294967295) + (IntKind.wrap .u64 ((bAnd .u64 a1 4294967295) * (a2.fdiv 4294967296))))).fdiv 4294967296))), .int .u64 (IntKind.wrap .u64 (a1 * a2))] (by kernel_rfl) fun w' hw' => ?_
  have hq := Option.some.inj hres
  subst hq
  exact ⟨rfl, hw'.drop⟩
/- 48 flywheel/muldiv.size -/
def muldiv_size (a1 : Int) : Option Int :=
  (if a1 < 0 then some (IntKind.wrap .u64 (0 - (IntKind.wrap .u64 (a1)))) else some (IntKind.wrap .u64 (a1)))
theorem muldiv_size_ok {a1 : Int} {r : Int} (hres : muldiv_size a1 = some r) {w0 w : World} {F : List Asn} (hw : SH w0 w (F)) :
    Calls Try.prog 48 #[.int .i64 a1] w fun e w' => e = .returned (.int .u64 r) ∧ SH w0 w' (F) := by
  refine fw_enter (n := 10) (bs := []) (env := [(0, I a1)]) (H := []) (F := F) Try.func48 rfl (by kernel_rfl) (by kernel_rfl) (by kernel_rfl) (hw.eq (by kernel_rfl)) ?_
  unfold muldiv_size at hres
  refine rn_seq ?_
  refine rn_q [] [0] [(0, I a1)] [] (by kernel_rfl) trivial (fin_next ?_)
  refine rn_seq ?_
  refine rn_seq ?_
  refine rn_q [] [0, 4] [(0, I a1), (4, B (decide (a1 < 0)))] [] (by kernel_rfl) trivial (fin_next ?_)
  refine rn_cond (decide (a1 < 0)) (by kernel_rfl) (fun c2 => ?_) (fun c2 => ?_)
  · rw [if_pos (of_decide_eq_true c2)] at hres
    refine rn_seq ?_
    refine rn_q [] [2] [(2, U .u64 (IntKind.wrap .u64 (0 - (IntKind.wrap .u64 (a1)))))] [] (by kernel_rfl) trivial (fin_next ?_)
    refine rn_ret (fin_then_ret ?_)
    refine fin_ret [.int .u64 (IntKind.wrap .u64 (0 - (IntKind.wrap .u64 (a1))))] (by kernel_rfl) fun w' hw' => ?_
    have hq := Option.some.inj hres
    subst hq
    exact ⟨rfl, hw'.drop⟩
  · rw [if_neg (of_decide_eq_false c2)] at hres
    refine rn_skip (fin_next ?_)
    refine rn_seq ?_
    refine rn_q [] [2] [(2, U .u64 (IntKind.wrap .u64 (a1)))] [] (by kernel_rfl) trivial (fin_next ?_)
    refine rn_ret ?_
    refine fin_ret [.int .u64 (IntKind.wrap .u64 (a1))] (by kernel_rfl) fun w' hw' => ?_
    have hq := Option.some.inj hres
    subst hq
    exact ⟨rfl, hw'.drop⟩
/- 54 math/bits.Len64 -/
def math_bits_Len64.j913 (j909 : Int) (j910 : Int) : Option Int :=
  (bidx (⟨#[0, 1, 2, 2, 3, 3, 3, 3, 4, 4, 4, 4, 4, 4, 4, 4, 5, 5, 5, 5, 5, 5, 5, 5, 5, 5, 5, 5, 5, 5, 5, 5, 6, 6, 6, 6, 6, 6, 6, 6, 6, 6, 6, 6, 6, 6, 6, 6, 6, 6, 6, 6, 6, 6, 6, 6, 6, 6, 6, 6, 6, 6, 6, 6, 7, 7, 7, 7, 7, 7, 7, 7, 7, 7, 7, 7, 7, 7, 7, 7, 7, 7, 7, 7, 7, 7, 7, 7, 7, 7, 7, 7, 7, 7, 7, 7, 7, 7, 7, 7, 7, 7, 7, 7, 7, 7, 7, 7, 7, 7, 7, 7, 7, 7, 7, 7, 7, 7, 7, 7, 7, 7, 7, 7, 7, 7, 7, 7, 8, 8, 8, 8, 8, 8, 8, 8, 8, 8, 8, 8, 8, 8, 8, 8, 8, 8, 8, 8, 8, 8, 8, 8, 8, 8, 8, 8, 8, 8, 8, 8, 8, 8, 8, 8, 8, 8, 8, 8, 8, 8, 8, 8, 8, 8, 8, 8, 8, 8, 8, 8, 8, 8, 8, 8, 8, 8, 8, 8, 8, 8, 8, 8, 8, 8, 8, 8, 8, 8, 8, 8, 8, 8, 8, 8, 8, 8, 8, 8, 8, 8, 8, 8, 8, 8, 8, 8, 8, 8, 8, 8, 8, 8, 8, 8, 8, 8, 8, 8, 8, 8, 8, 8, 8, 8, 8, 8, 8, 8, 8, 8, 8, 8, 8, 8, 8, 8, 8, 8, 8, 8, 8, 8, 8, 8, 8, 8]⟩ : ByteArray) (IntKind.wrap .u8 (j909))).bind fun y911 =>
  some (w64 (j910 + (w64 (y911))))
def math_bits_Len64.j914 (j606 : Int) (j607 : Int) : Option Int :=
  (if 256 ≤ j606 then math_bits_Len64.j913 (j606.fdiv 256) (w64 (j607 + 8)) else math_bits_Len64.j913 j606 j607)
def math_bits_Len64.j915 (j303 : Int) (j304 : Int) : Option Int :=
  (if 65536 ≤ j303 then math_bits_Len64.j914 (j303.fdiv 65536) (w64 (j304 + 16)) else math_bits_Len64.j914 j303 j304)
def math_bits_Len64 (a1 : Int) : Option Int :=
  (if 4294967296 ≤ a1 then math_bits_Len64.j915 (a1.fdiv 4294967296) 32 else math_bits_Len64.j915 a1 0)
theorem math_bits_Len64_ok {a1 : Int} {r : Int} (hres : math_bits_Len64 a1 = some r) {w0 w : World} {F : List Asn} (hw : SH w0 w (F)) :
    Calls Try.prog 54 #[.int .u64 a1] w fun e w' => e = .returned (.int .i64 r) ∧ SH w0 w' (F) := by
  refine fw_enter (n := 25) (bs := []) (env := [(0, U .u64 a1)]) (H := []) (F := F) Try.func54 rfl (by kernel_rfl) (by kernel_rfl) (by kernel_rfl) (hw.eq (by kernel_rfl)) ?_
  unfold math_bits_Len64 at hres
  refine rn_seq ?_
  refine rn_q [] [0, 2] [(0, U .u64 a1), (2, I 0)] [] (by kernel_rfl) trivial (fin_next ?_)
  refine rn_join (V := Int × Int) (J := fun v => math_bits_Len64.j915 v.1 v.2 = some r) (sv := fun v => ⟨[], [(0, U .u64 v.1), (2, I v.2)], []⟩) ?_ ?_
  · refine rn_seq ?_
    refine rn_q [] [0, 2, 4] [(0, U .u64 a1), (2, I 0), (4, B (decide (4294967296 ≤ a1)))] [] (by kernel_rfl) trivial (fin_next ?_)
    refine rn_cond (decide (4294967296 ≤ a1)) (by kernel_rfl) (fun c2 => ?_) (fun c2 => ?_)
    · rw [if_pos (of_decide_eq_true c2)] at hres
      refine rn_seq ?_
      refine rn_q [] [0] [(0, U .u64 (a1.fdiv 4294967296))] [] (by kernel_rfl) trivial (fin_next ?_)
      refine rn_q [] [0, 2] [(0, U .u64 (a1.fdiv 4294967296)), (2, I 32)] [] (by kernel_rfl) trivial (fin_then ?_)
      refine fin_join (a1.fdiv 4294967296, 32) hres [] [] (by kernel_rfl) (by kernel_rfl) (by kernel_rfl)
    · rw [if_neg (of_decide_eq_false c2)] at hres
      refine rn_skip (fin_then ?_)
      refine fin_join (a1, 0) hres [] [] (by kernel_rfl) (by kernel_rfl) (by kernel_rfl)
  · rintro ⟨j303, j304⟩ hres
    unfold math_bits_Len64.j915 at hres
    refine rn_join (V := Int × Int) (J := fun v => math_bits_Len64.j914 v.1 v.2 = some r) (sv := fun v => ⟨[], [(0, U .u64 v.1), (2, I v.2)], []⟩) ?_ ?_
    · refine rn_seq ?_
      refine rn_q [] [0, 2, 8] [(0, U .u64 j303), (2, I j304), (8, B (decide (65536 ≤ j303)))] [] (by kernel_rfl) trivial (fin_next ?_)
      refine rn_cond (decide (65536 ≤ j303)) (by kernel_rfl) (fun c305 => ?_) (fun c305 => ?_)
      · rw [if_pos (of_decide_eq_true c305)] at hres
        refine rn_seq ?_
        refine rn_q [] [0, 2] [(0, U .u64 (j303.fdiv 65536)), (2, I j304)] [] (by kernel_rfl) trivial (fin_next ?_)
        refine rn_q [] [0, 2] [(0, U .u64 (j303.fdiv 65536)), (2, I (w64 (j304 + 16)))] [] (by kernel_rfl) trivial (fin_then ?_)
        refine fin_join (j303.fdiv 65536, w64 (j304 + 16)) hres [] [] (by kernel_rfl) (by kernel_rfl) (by kernel_rfl)
      · rw [if_neg (of_decide_eq_false c305)] at hres
        refine rn_skip (fin_then ?_)
        refine fin_join (j303, j304) hres [] [] (by kernel_rfl) (by kernel_rfl) (by kernel_rfl)
    · rintro ⟨j606, j607⟩ hres
      unfold math_bits_Len64.j914 at hres
      refine rn_join (V := Int × Int) (J := fun v => math_bits_Len64.j913 v.1 v.2 = some r) (sv := fun v => ⟨[], [(0, U .u64 v.1), (2, I v.2)], []⟩) ?_ ?_
      · refine rn_seq ?_
        refine rn_q [] [0, 2, 14] [(0, U .u64 j606), (2, I j607), (14, B (decide (256 ≤ j606)))] [] (by kernel_rfl) trivial (fin_next ?_)
        refine rn_cond (decide (256 ≤ j606)) (by kernel_rfl) (fun c608 => ?_) (fun c608 => ?_)
        · rw [if_pos (of_decide_eq_true c608)] at hres
          refine rn_seq ?_
          refine rn_q [] [0, 2] [(0, U .u64 (j606.fdiv 256)), (2, I j607)] [] (by kernel_rfl) trivial (fin_next ?_)
          refine rn_q [] [0, 2] [(0, U .u64 (j606.fdiv 256)), (2, I (w64 (j607 + 8)))] [] (by kernel_rfl) trivial (fin_then ?_)
          refine fin_join (j606.fdiv 256, w64 (j607 + 8)) hres [] [] (by kernel_rfl) (by kernel_rfl) (by kernel_rfl)
        · rw [if_neg (of_decide_eq_false c608)] at hres
          refine rn_skip (fin_then ?_)
          refine fin_join (j606, j607) hres [] [] (by kernel_rfl) (by kernel_rfl) (by kernel_rfl)
      · rintro ⟨j909, j910⟩ hres
        unfold math_bits_Len64.j913 at hres
        refine rn_seq ?_
        refine bind_elim hres fun y911 hy912 hres => ?_
        refine rn_q [(3, U .u8 y911)] [2] [(2, I (w64 (j910 + (w64 (y911)))))] [(smIx 9 (.string (⟨#[0, 1, 2, 2, 3, 3, 3, 3, 4, 4, 4, 4, 4, 4, 4, 4, 5, 5, 5, 5, 5, 5, 5, 5, 5, 5, 5, 5, 5, 5, 5, 5, 6, 6, 6, 6, 6, 6, 6, 6, 6, 6, 6, 6, 6, 6, 6, 6, 6, 6, 6, 6, 6, 6, 6, 6, 6, 6, 6, 6, 6, 6, 6, 6, 7, 7, 7, 7, 7, 7, 7, 7, 7, 7, 7, 7, 7, 7, 7, 7, 7, 7, 7, 7, 7, 7, 7, 7, 7, 7, 7, 7, 7, 7, 7, 7, 7, 7, 7, 7, 7, 7, 7, 7, 7, 7, 7, 7, 7, 7, 7, 7, 7, 7, 7, 7, 7, 7, 7, 7, 7, 7, 7, 7, 7, 7, 7, 7, 8, 8, 8, 8, 8, 8, 8, 8, 8, 8, 8, 8, 8, 8, 8, 8, 8, 8, 8, 8, 8, 8, 8, 8, 8, 8, 8, 8, 8, 8, 8, 8, 8, 8, 8, 8, 8, 8, 8, 8, 8, 8, 8, 8, 8, 8, 8, 8, 8, 8, 8, 8, 8, 8, 8, 8, 8, 8, 8, 8, 8, 8, 8, 8, 8, 8, 8, 8, 8, 8, 8, 8, 8, 8, 8, 8, 8, 8, 8, 8, 8, 8, 8, 8, 8, 8, 8, 8, 8, 8, 8, 8, 8, 8, 8, 8, 8, 8, 8, 8, 8, 8, 8, 8, 8, 8, 8, 8, 8, 8, 8, 8, 8, 8, 8, 8, 8, 8, 8, 8, 8, 8, 8, 8, 8, 8, 8, 8]⟩ : ByteArray)) (.int .u8 (IntKind.wrap .u8 (j909))), .int .u8 y911)] (by kernel_rfl) ⟨ob_bidx (by kernel_rfl) hy912, trivial⟩ (fin_next ?_)
        refine rn_ret ?_
        refine fin_ret [.int .i64 (w64 (j910 + (w64 (y911))))] (by kernel_rfl) fun w' hw' => ?_
        have hq := Option.some.inj hres
        subst hq
        exact ⟨rfl, hw'.drop⟩
end Fl
