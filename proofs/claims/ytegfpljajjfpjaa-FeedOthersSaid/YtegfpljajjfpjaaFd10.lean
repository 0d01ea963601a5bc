import Derived.Test.YtegfpljajjfpjaaFwT
import Derived.Test.YtegfpljajjfpjaaProg
import Derived.Test.YtegfpljajjfpjaaFd0
import Derived.Test.YtegfpljajjfpjaaFd5
import Derived.Test.YtegfpljajjfpjaaFd7
import Derived.Test.YtegfpljajjfpjaaFd9
set_option linter.unusedVariables false
set_option maxRecDepth 100000
set_option maxHeartbeats 8000000
namespace Fl
open Go Go.Proofs Fw
/- 8 flywheel/flywheelkeep.Reports -/
def keep_Reports.l17 (a1 : List S_api_Report) (a3 : List S_api_Report) : Nat → Int → Option Bool
  | 0, _ => none
  | k + 1, x6 =>
    (if x6 < (a1.length : Int) then (idx a1 x6).bind fun y19 =>
  (idx a3 x6).bind fun y20 =>
  (if y19.Seq = y20.Seq then (if (y19.Got != y20.Got) = true then some false else (if y19.At = y20.At then (if (y19.Late != y20.Late) = true then some false else (if (y19.Ecn != y20.Ecn) = true then some false else keep_Reports.l17 a1 a3 k (w64 (x6 + 1)))) else some false)) else some false) else some true)
def keep_Reports (a1 : List S_api_Report) (a3 : List S_api_Report) : Option Bool :=
  (if (a1.length : Int) = (a3.length : Int) then keep_Reports.l17 a1 a3 FUEL 0 else some false)
theorem keep_Reports_ok {a1 : List S_api_Report} {a3 : List S_api_Report} {A2 : Option Addr} {k2 : Nat} {A4 : Option Addr} {k4 : Nat} {r : Bool} (hres : keep_Reports a1 a3 = some r) {w0 w : World} {F : List Asn} (hA2 : RowT w0 F e_api_Report A2 k2 a1) (hA4 : RowT w0 F e_api_Report A4 k4 a3) (hw : SH w0 w (F)) :
    Calls Try.prog 8 #[.slice A2 a1.length k2, .slice A4 a3.length k4] w fun e w' => e = .returned (.bool r) ∧ SH w0 w' (F) := by
  refine fw_enter (n := 60) (bs := []) (env := [(0, .v (.slice A2 a1.length k2)), (1, .v (.slice A4 a3.length k4))]) (H := []) (F := F) Try.func8 rfl (by kernel_rfl) (by kernel_rfl) (by kernel_rfl) (hw.eq (by kernel_rfl)) ?_
  unfold keep_Reports at hres
  refine rn_seq ?_
  refine rn_q [] [0, 1] [(0, .v (.slice A2 a1.length k2)), (1, .v (.slice A4 a3.length k4))] [] (by kernel_rfl) trivial (fin_next ?_)
  refine rn_seq ?_
  refine rn_seq ?_
  refine rn_q [] [0, 1, 12] [(0, .v (.slice A2 a1.length k2)), (1, .v (.slice A4 a3.length k4)), (12, B ((a1.length : Int) != (a3.length : Int)))] [] (by kernel_rfl) trivial (fin_next ?_)
  refine rn_cond ((a1.length : Int) != (a3.length : Int)) (by kernel_rfl) (fun c5 => ?_) (fun c5 => ?_)
  · rw [if_neg (ne_t c5)] at hres
    refine rn_seq ?_
    refine rn_q [] [4] [(4, B false)] [] (by kernel_rfl) trivial (fin_next ?_)
    refine rn_ret (fin_then_ret ?_)
    refine fin_ret [.bool false] (by kernel_rfl) fun w' hw' => ?_
    have hq := Option.some.inj hres
    subst hq
    exact ⟨rfl, hw'.drop⟩
  · rw [if_pos (ne_f c5)] at hres
    refine rn_skip (fin_next ?_)
    refine rn_seq ?_
    refine rn_seq ?_
    refine rn_q [] [0, 1, 5] [(0, .v (.slice A2 a1.length k2)), (1, .v (.slice A4 a3.length k4)), (5, I 0)] [] (by kernel_rfl) trivial (fin_next ?_)
    refine rn_block ?_
    refine rn_loop (V := Int) (J := fun k v => keep_Reports.l17 a1 a3 k v = some r) (sv := fun v => ⟨[], [(0, .v (.slice A2 a1.length k2)), (1, .v (.slice A4 a3.length k4)), (5, I v)], []⟩) FUEL 0 hres (fun a w hs => hs.conv [] (by kernel_rfl) (by kernel_rfl) ⟨[], by kernel_rfl⟩) ?_
    rintro k17 x6 hres
    rcases k17 with _ | k17
    · rw [keep_Reports.l17] at hres; cases hres
    · rw [keep_Reports.l17] at hres
      refine rn_seq ?_
      refine rn_seq ?_
      refine rn_q [] [0, 1, 5, 16] [(0, .v (.slice A2 a1.length k2)), (1, .v (.slice A4 a3.length k4)), (5, I x6), (16, B (decide (x6 < (a1.length : Int))))] [] (by kernel_rfl) trivial (fin_next ?_)
      refine rn_cond (decide (x6 < (a1.length : Int))) (by kernel_rfl) (fun c18 => ?_) (fun c18 => ?_)
      · rw [if_pos (of_decide_eq_true c18)] at hres
        refine rn_skip (fin_next ?_)
        refine rn_seq ?_
        refine rn_block ?_
        refine rn_seq ?_
        refine bind_elim hres fun y19 hy19 hres => ?_
        refine bind_elim hres fun y20 hy20 hres => ?_
        refine rn_meet (V := Nat × Nat) (J := fun _ => True) (sv := fun v => ⟨[v.1, v.2], [(0, .v (.slice A2 a1.length k2)), (1, .v (.slice A4 a3.length k4)), (5, I x6), (6, .p 0 0), (7, .p 1 0)], [.c 1 [I y20.Seq, B y20.Got, I y20.At, B y20.Late, B y20.Ecn] 45, .c 0 [I y19.Seq, B y19.Got, I y19.At, B y19.Late, B y19.Ecn] 45]⟩) ?_ ?_
        · refine rn_held (hden [] [] ++ F) (by kernel_rfl) ?_
          refine rh_q [] 4 [0, 1, 2, 3, 4, 5, 6, 7] [(2, .v (elP A2 (x6.toNat * 5 + 0))), (3, .v (.agg #[.int .i64 y19.Seq, .bool y19.Got, .int .i64 y19.At, .bool y19.Late, .bool y19.Ecn])), (6, .v (elP A4 (x6.toNat * 5 + 0))), (7, .v (.agg #[.int .i64 y20.Seq, .bool y20.Got, .int .i64 y20.At, .bool y20.Late, .bool y20.Ecn]))] [0, 1, 5, 22, 26] [(0, .v (.slice A2 a1.length k2)), (1, .v (.slice A4 a3.length k4)), (5, I x6), (22, .v (.agg #[.int .i64 y19.Seq, .bool y19.Got, .int .i64 y19.At, .bool y19.Late, .bool y19.Ecn])), (26, .v (.agg #[.int .i64 y20.Seq, .bool y20.Got, .int .i64 y20.At, .bool y20.Late, .bool y20.Ecn]))] [true, true, true, true, true, true, true, true, false, false, false, false] [(smIa 30 (.slice A2 a1.length k2) (.int .i64 x6), elP A2 (x6.toNat * 5 + 0)), (smLd 45 (elP A2 (x6.toNat * 5 + 0)), .agg #[.int .i64 y19.Seq, .bool y19.Got, .int .i64 y19.At, .bool y19.Late, .bool y19.Ecn]), (smIa 30 (.slice A4 a3.length k4) (.int .i64 x6), elP A4 (x6.toNat * 5 + 0)), (smLd 45 (elP A4 (x6.toNat * 5 + 0)), .agg #[.int .i64 y20.Seq, .bool y20.Got, .int .i64 y20.At, .bool y20.Late, .bool y20.Ecn])] rfl (by kernel_rfl) rfl [] [] (by kernel_rfl) (by kernel_rfl) ⟨ob_ia (E := e_api_Report) (U := 45) (i := x6) (sz := 5) (by kernel_rfl) (by kernel_rfl) (by kernel_rfl) hA2.app hy19, ⟨ob_lda (E := e_api_Report) (i := x6) (sz := 5) (o := 0) (vs := [.int .i64 y19.Seq, .bool y19.Got, .int .i64 y19.At, .bool y19.Late, .bool y19.Ecn]) (d := ((Try.prog.underlying 45).get rfl)) (by kernel_rfl) (by kernel_rfl) (tz := 5) (by kernel_rfl) (by kernel_rfl) (by kernel_rfl) (by kernel_rfl) hA2.app hy19, ⟨ob_ia (E := e_api_Report) (U := 45) (i := x6) (sz := 5) (by kernel_rfl) (by kernel_rfl) (by kernel_rfl) hA4.app hy20, ⟨ob_lda (E := e_api_Report) (i := x6) (sz := 5) (o := 0) (vs := [.int .i64 y20.Seq, .bool y20.Got, .int .i64 y20.At, .bool y20.Late, .bool y20.Ecn]) (d := ((Try.prog.underlying 45).get rfl)) (by kernel_rfl) (by kernel_rfl) (tz := 5) (by kernel_rfl) (by kernel_rfl) (by kernel_rfl) (by kernel_rfl) hA4.app hy20, trivial⟩⟩⟩⟩ ?_
          refine rh_2 8 9 (by kernel_rfl) ?_ ?_
          · refine op_alloc 45 6 (.agg #[.int .i64 0, .bool false, .int .i64 0, .bool false, .bool false]) [I 0, B false, I 0, B false, B false] (fun b21 => [b21]) (fun b21 => [.c 0 [I 0, B false, I 0, B false, B false] 45]) (by kernel_rfl) (by kernel_rfl) (by kernel_rfl) (by kernel_rfl) 0 (fun _ => by kernel_rfl) (fun _ => mt_bs (by kernel_rfl)) (fun _ => by kernel_rfl) (fun b21 => fin_held [] [true, true, true, true, true, true, true, true, true, false, false, false] (by kernel_rfl) rfl [] [cellsA b21 [.int .i64 0, .bool false, .int .i64 0, .bool false, .bool false] 45] (by kernel_rfl) ?_)
            refine rh_1 9 (by kernel_rfl) ?_
            refine op_alloc 45 7 (.agg #[.int .i64 0, .bool false, .int .i64 0, .bool false, .bool false]) [I 0, B false, I 0, B false, B false] (fun b22 => [b21, b22]) (fun b22 => [.c 1 [I 0, B false, I 0, B false, B false] 45, .c 0 [I 0, B false, I 0, B false, B false] 45]) (by kernel_rfl) (by kernel_rfl) (by kernel_rfl) (by kernel_rfl) 1 (fun _ => by kernel_rfl) (fun _ => mt_bs (by kernel_rfl)) (fun _ => by kernel_rfl) (fun b22 => fin_held [] [true, true, true, true, true, true, true, true, true, true, false, false] (by kernel_rfl) rfl [] [cellsA b22 [.int .i64 0, .bool false, .int .i64 0, .bool false, .bool false] 45, cellsA b21 [.int .i64 0, .bool false, .int .i64 0, .bool false, .bool false] 45] (by kernel_rfl) ?_)
            refine rh_1 10 (by kernel_rfl) ?_
            refine op_store 45 (.tmp 6) (.tmp 22) 0 0 (.v (.agg #[.int .i64 y19.Seq, .bool y19.Got, .int .i64 y19.At, .bool y19.Late, .bool y19.Ecn])) [.c 1 [I 0, B false, I 0, B false, B false] 45, .c 0 [I y19.Seq, B y19.Got, I y19.At, B y19.Late, B y19.Ecn] 45] (by kernel_rfl) (by kernel_rfl) (by kernel_rfl) (by kernel_rfl) (fin_held [] [true, true, true, true, true, true, true, true, true, true, true, false] (by kernel_rfl) rfl [] [cellsA b22 [.int .i64 0, .bool false, .int .i64 0, .bool false, .bool false] 45, cellsA b21 [.int .i64 y19.Seq, .bool y19.Got, .int .i64 y19.At, .bool y19.Late, .bool y19.Ecn] 45] (by kernel_rfl) ?_)
            refine rh_1 11 (by kernel_rfl) ?_
            refine op_store 45 (.tmp 7) (.tmp 26) 1 0 (.v (.agg #[.int .i64 y20.Seq, .bool y20.Got, .int .i64 y20.At, .bool y20.Late, .bool y20.Ecn])) [.c 1 [I y20.Seq, B y20.Got, I y20.At, B y20.Late, B y20.Ecn] 45, .c 0 [I y19.Seq, B y19.Got, I y19.At, B y19.Late, B y19.Ecn] 45] (by kernel_rfl) (by kernel_rfl) (by kernel_rfl) (by kernel_rfl) (fin_held [] [true, true, true, true, true, true, true, true, true, true, true, true] (by kernel_rfl) rfl [] [cellsA b22 [.int .i64 y20.Seq, .bool y20.Got, .int .i64 y20.At, .bool y20.Late, .bool y20.Ecn] 45, cellsA b21 [.int .i64 y19.Seq, .bool y19.Got, .int .i64 y19.At, .bool y19.Late, .bool y19.Ecn] 45] (by kernel_rfl) ?_)
            refine rh_end (by kernel_rfl) (fin_then ?_)
            exact fin_join (b21, b22) trivial [0, 0] [] (by kernel_rfl) (by kernel_rfl) (by kernel_rfl)
          · refine op_alloc 45 7 (.agg #[.int .i64 0, .bool false, .int .i64 0, .bool false, .bool false]) [I 0, B false, I 0, B false, B false] (fun b22 => [b22]) (fun b22 => [.c 0 [I 0, B false, I 0, B false, B false] 45]) (by kernel_rfl) (by kernel_rfl) (by kernel_rfl) (by kernel_rfl) 0 (fun _ => by kernel_rfl) (fun _ => mt_bs (by kernel_rfl)) (fun _ => by kernel_rfl) (fun b22 => fin_held [] [true, true, true, true, true, true, true, true, false, true, false, false] (by kernel_rfl) rfl [] [cellsA b22 [.int .i64 0, .bool false, .int .i64 0, .bool false, .bool false] 45] (by kernel_rfl) ?_)
            refine rh_1 8 (by kernel_rfl) ?_
            refine op_alloc 45 6 (.agg #[.int .i64 0, .bool false, .int .i64 0, .bool false, .bool false]) [I 0, B false, I 0, B false, B false] (fun b21 => [b22, b21]) (fun b21 => [.c 1 [I 0, B false, I 0, B false, B false] 45, .c 0 [I 0, B false, I 0, B false, B false] 45]) (by kernel_rfl) (by kernel_rfl) (by kernel_rfl) (by kernel_rfl) 1 (fun _ => by kernel_rfl) (fun _ => mt_bs (by kernel_rfl)) (fun _ => by kernel_rfl) (fun b21 => fin_held [] [true, true, true, true, true, true, true, true, true, true, false, false] (by kernel_rfl) rfl [] [cellsA b21 [.int .i64 0, .bool false, .int .i64 0, .bool false, .bool false] 45, cellsA b22 [.int .i64 0, .bool false, .int .i64 0, .bool false, .bool false] 45] (by kernel_rfl) ?_)
            refine rh_1 10 (by kernel_rfl) ?_
            refine op_store 45 (.tmp 6) (.tmp 22) 1 0 (.v (.agg #[.int .i64 y19.Seq, .bool y19.Got, .int .i64 y19.At, .bool y19.Late, .bool y19.Ecn])) [.c 1 [I y19.Seq, B y19.Got, I y19.At, B y19.Late, B y19.Ecn] 45, .c 0 [I 0, B false, I 0, B false, B false] 45] (by kernel_rfl) (by kernel_rfl) (by kernel_rfl) (by kernel_rfl) (fin_held [] [true, true, true, true, true, true, true, true, true, true, true, false] (by kernel_rfl) rfl [] [cellsA b21 [.int .i64 y19.Seq, .bool y19.Got, .int .i64 y19.At, .bool y19.Late, .bool y19.Ecn] 45, cellsA b22 [.int .i64 0, .bool false, .int .i64 0, .bool false, .bool false] 45] (by kernel_rfl) ?_)
            refine rh_1 11 (by kernel_rfl) ?_
            refine op_store 45 (.tmp 7) (.tmp 26) 0 0 (.v (.agg #[.int .i64 y20.Seq, .bool y20.Got, .int .i64 y20.At, .bool y20.Late, .bool y20.Ecn])) [.c 1 [I y19.Seq, B y19.Got, I y19.At, B y19.Late, B y19.Ecn] 45, .c 0 [I y20.Seq, B y20.Got, I y20.At, B y20.Late, B y20.Ecn] 45] (by kernel_rfl) (by kernel_rfl) (by kernel_rfl) (by kernel_rfl) (fin_held [] [true, true, true, true, true, true, true, true, true, true, true, true] (by kernel_rfl) rfl [] [cellsA b21 [.int .i64 y19.Seq, .bool y19.Got, .int .i64 y19.At, .bool y19.Late, .bool y19.Ecn] 45, cellsA b22 [.int .i64 y20.Seq, .bool y20.Got, .int .i64 y20.At, .bool y20.Late, .bool y20.Ecn] 45] (by kernel_rfl) ?_)
            refine rh_end (by kernel_rfl) (fin_then ?_)
            exact fin_join (b21, b22) trivial [1, 0] [] (by kernel_rfl) (by kernel_rfl) (by kernel_rfl)
        · rintro ⟨b21, b22⟩ -
          refine fin_id (fin_next ?_)
          refine rn_seq ?_
          refine rn_text ?_
          refine ro_q 6 [] [0, 1, 5, 6, 7, 32] [(0, .v (.slice A2 a1.length k2)), (1, .v (.slice A4 a3.length k4)), (5, I x6), (6, .p 0 0), (7, .p 1 0), (32, B (y19.Seq != y20.Seq))] [] (by kernel_rfl) trivial ?_
          refine ro_split 32 (y19.Seq != y20.Seq) (by kernel_rfl) (fun c23 => ?_) (fun c23 => ?_)
          · rw [if_neg (ne_t c23)] at hres
            refine ro_q 27 [] [0, 1, 5, 59] [(0, .v (.slice A2 a1.length k2)), (1, .v (.slice A4 a3.length k4)), (5, I x6), (59, B true)] [] (by kernel_rfl) trivial ?_
            refine ro_end (by kernel_rfl) (fin_next ?_)
            refine rn_cond_t (by kernel_rfl) ?_
            refine rn_seq ?_
            refine rn_q [] [4] [(4, B false)] [] (by kernel_rfl) trivial (fin_next ?_)
            refine rn_ret (fin_block_ret (fin_then_ret (fin_then_ret (fin_block_ret (fin_then_ret ?_)))))
            refine fin_ret [.bool false] (by kernel_rfl) fun w' hw' => ?_
            have hq := Option.some.inj hres
            subst hq
            exact ⟨rfl, hw'.drop⟩
          · rw [if_pos (ne_f c23)] at hres
            refine ro_q 7 [] [0, 1, 5, 6, 7, 39] [(0, .v (.slice A2 a1.length k2)), (1, .v (.slice A4 a3.length k4)), (5, I x6), (6, .p 0 0), (7, .p 1 0), (39, B (y19.Got != y20.Got))] [] (by kernel_rfl) trivial ?_
            refine ro_split 39 (y19.Got != y20.Got) (by kernel_rfl) (fun c24 => ?_) (fun c24 => ?_)
            · rw [if_pos (c24)] at hres
              refine ro_q 20 [] [0, 1, 5, 59] [(0, .v (.slice A2 a1.length k2)), (1, .v (.slice A4 a3.length k4)), (5, I x6), (59, B true)] [] (by kernel_rfl) trivial ?_
              refine ro_end (by kernel_rfl) (fin_next ?_)
              refine rn_cond_t (by kernel_rfl) ?_
              refine rn_seq ?_
              refine rn_q [] [4] [(4, B false)] [] (by kernel_rfl) trivial (fin_next ?_)
              refine rn_ret (fin_block_ret (fin_then_ret (fin_then_ret (fin_block_ret (fin_then_ret ?_)))))
              refine fin_ret [.bool false] (by kernel_rfl) fun w' hw' => ?_
              have hq := Option.some.inj hres
              subst hq
              exact ⟨rfl, hw'.drop⟩
            · rw [if_neg (nt_of_f c24)] at hres
              refine ro_q 7 [] [0, 1, 5, 6, 7, 46] [(0, .v (.slice A2 a1.length k2)), (1, .v (.slice A4 a3.length k4)), (5, I x6), (6, .p 0 0), (7, .p 1 0), (46, B (y19.At != y20.At))] [] (by kernel_rfl) trivial ?_
              refine ro_split 46 (y19.At != y20.At) (by kernel_rfl) (fun c25 => ?_) (fun c25 => ?_)
              · rw [if_neg (ne_t c25)] at hres
                refine ro_q 13 [] [0, 1, 5, 59] [(0, .v (.slice A2 a1.length k2)), (1, .v (.slice A4 a3.length k4)), (5, I x6), (59, B true)] [] (by kernel_rfl) trivial ?_
                refine ro_end (by kernel_rfl) (fin_next ?_)
                refine rn_cond_t (by kernel_rfl) ?_
                refine rn_seq ?_
                refine rn_q [] [4] [(4, B false)] [] (by kernel_rfl) trivial (fin_next ?_)
                refine rn_ret (fin_block_ret (fin_then_ret (fin_then_ret (fin_block_ret (fin_then_ret ?_)))))
                refine fin_ret [.bool false] (by kernel_rfl) fun w' hw' => ?_
                have hq := Option.some.inj hres
                subst hq
                exact ⟨rfl, hw'.drop⟩
              · rw [if_pos (ne_f c25)] at hres
                refine ro_q 7 [] [0, 1, 5, 6, 7, 53] [(0, .v (.slice A2 a1.length k2)), (1, .v (.slice A4 a3.length k4)), (5, I x6), (6, .p 0 0), (7, .p 1 0), (53, B (y19.Late != y20.Late))] [] (by kernel_rfl) trivial ?_
                refine ro_split 53 (y19.Late != y20.Late) (by kernel_rfl) (fun c26 => ?_) (fun c26 => ?_)
                · rw [if_pos (c26)] at hres
                  refine ro_q 6 [] [0, 1, 5, 59] [(0, .v (.slice A2 a1.length k2)), (1, .v (.slice A4 a3.length k4)), (5, I x6), (59, B true)] [] (by kernel_rfl) trivial ?_
                  refine ro_end (by kernel_rfl) (fin_next ?_)
                  refine rn_cond_t (by kernel_rfl) ?_
                  refine rn_seq ?_
                  refine rn_q [] [4] [(4, B false)] [] (by kernel_rfl) trivial (fin_next ?_)
                  refine rn_ret (fin_block_ret (fin_then_ret (fin_then_ret (fin_block_ret (fin_then_ret ?_)))))
                  refine fin_ret [.bool false] (by kernel_rfl) fun w' hw' => ?_
                  have hq := Option.some.inj hres
                  subst hq
                  exact ⟨rfl, hw'.drop⟩
                · rw [if_neg (nt_of_f c26)] at hres
                  refine ro_q 6 [] [0, 1, 5, 59] [(0, .v (.slice A2 a1.length k2)), (1, .v (.slice A4 a3.length k4)), (5, I x6), (59, B (y19.Ecn != y20.Ecn))] [] (by kernel_rfl) trivial ?_
                  refine ro_end (by kernel_rfl) (fin_next ?_)
                  refine rn_cond (y19.Ecn != y20.Ecn) (by kernel_rfl) (fun c27 => ?_) (fun c27 => ?_)
                  · rw [if_pos (c27)] at hres
                    refine rn_seq ?_
                    refine rn_q [] [4] [(4, B false)] [] (by kernel_rfl) trivial (fin_next ?_)
                    refine rn_ret (fin_block_ret (fin_then_ret (fin_then_ret (fin_block_ret (fin_then_ret ?_)))))
                    refine fin_ret [.bool false] (by kernel_rfl) fun w' hw' => ?_
                    have hq := Option.some.inj hres
                    subst hq
                    exact ⟨rfl, hw'.drop⟩
                  · rw [if_neg (nt_of_f c27)] at hres
                    refine rn_skip (fin_block (fin_next ?_))
                    refine rn_q [] [0, 1, 5] [(0, .v (.slice A2 a1.length k2)), (1, .v (.slice A4 a3.length k4)), (5, I (w64 (x6 + 1)))] [] (by kernel_rfl) trivial (fin_then ?_)
                    refine fin_loop (w64 (x6 + 1)) hres [] [cellsA b22 [.int .i64 y20.Seq, .bool y20.Got, .int .i64 y20.At, .bool y20.Late, .bool y20.Ecn] 45, cellsA b21 [.int .i64 y19.Seq, .bool y19.Got, .int .i64 y19.At, .bool y19.Late, .bool y19.Ecn] 45] (by kernel_rfl) (by kernel_rfl) (by kernel_rfl)
      · rw [if_neg (of_decide_eq_false c18)] at hres
        refine rn_exit (fin_then_exit (fin_then_exit (fin_block_exit (fin_next ?_))))
        refine rn_seq ?_
        refine rn_q [] [4] [(4, B true)] [] (by kernel_rfl) trivial (fin_next ?_)
        refine rn_ret ?_
        refine fin_ret [.bool true] (by kernel_rfl) fun w' hw' => ?_
        have hq := Option.some.inj hres
        subst hq
        exact ⟨rfl, hw'.drop⟩
/- 9 flywheel/flywheelkeep.Ints -/
def keep_Ints.l11 (a1 : List Int) (a3 : List Int) : Nat → Int → Option Bool
  | 0, _ => none
  | k + 1, x6 =>
    (if x6 < (a1.length : Int) then (idx a1 x6).bind fun y13 =>
  (idx a3 x6).bind fun y14 =>
  (if y13 = y14 then keep_Ints.l11 a1 a3 k (w64 (x6 + 1)) else some false) else some true)
def keep_Ints (a1 : List Int) (a3 : List Int) : Option Bool :=
  (if (a1.length : Int) = (a3.length : Int) then keep_Ints.l11 a1 a3 FUEL 0 else some false)
theorem keep_Ints_ok {a1 : List Int} {a3 : List Int} {A2 : Option Addr} {k2 : Nat} {A4 : Option Addr} {k4 : Nat} {r : Bool} (hres : keep_Ints a1 a3 = some r) {w0 w : World} {F : List Asn} (hA2 : RowT w0 F (eI .i64) A2 k2 a1) (hA4 : RowT w0 F (eI .i64) A4 k4 a3) (hw : SH w0 w (F)) :
    Calls Try.prog 9 #[.slice A2 a1.length k2, .slice A4 a3.length k4] w fun e w' => e = .returned (.bool r) ∧ SH w0 w' (F) := by
  refine fw_enter (n := 26) (bs := []) (env := [(0, .v (.slice A2 a1.length k2)), (1, .v (.slice A4 a3.length k4))]) (H := []) (F := F) Try.func9 rfl (by kernel_rfl) (by kernel_rfl) (by kernel_rfl) (hw.eq (by kernel_rfl)) ?_
  unfold keep_Ints at hres
  refine rn_seq ?_
  refine rn_q [] [0, 1] [(0, .v (.slice A2 a1.length k2)), (1, .v (.slice A4 a3.length k4))] [] (by kernel_rfl) trivial (fin_next ?_)
  refine rn_seq ?_
  refine rn_seq ?_
  refine rn_q [] [0, 1, 10] [(0, .v (.slice A2 a1.length k2)), (1, .v (.slice A4 a3.length k4)), (10, B ((a1.length : Int) != (a3.length : Int)))] [] (by kernel_rfl) trivial (fin_next ?_)
  refine rn_cond ((a1.length : Int) != (a3.length : Int)) (by kernel_rfl) (fun c5 => ?_) (fun c5 => ?_)
  · rw [if_neg (ne_t c5)] at hres
    refine rn_seq ?_
    refine rn_q [] [4] [(4, B false)] [] (by kernel_rfl) trivial (fin_next ?_)
    refine rn_ret (fin_then_ret ?_)
    refine fin_ret [.bool false] (by kernel_rfl) fun w' hw' => ?_
    have hq := Option.some.inj hres
    subst hq
    exact ⟨rfl, hw'.drop⟩
  · rw [if_pos (ne_f c5)] at hres
    refine rn_skip (fin_next ?_)
    refine rn_seq ?_
    refine rn_seq ?_
    refine rn_q [] [0, 1, 5] [(0, .v (.slice A2 a1.length k2)), (1, .v (.slice A4 a3.length k4)), (5, I 0)] [] (by kernel_rfl) trivial (fin_next ?_)
    refine rn_block ?_
    refine rn_loop (V := Int) (J := fun k v => keep_Ints.l11 a1 a3 k v = some r) (sv := fun v => ⟨[], [(0, .v (.slice A2 a1.length k2)), (1, .v (.slice A4 a3.length k4)), (5, I v)], []⟩) FUEL 0 hres (fun a w hs => hs.conv [] (by kernel_rfl) (by kernel_rfl) ⟨[], by kernel_rfl⟩) ?_
    rintro k11 x6 hres
    rcases k11 with _ | k11
    · rw [keep_Ints.l11] at hres; cases hres
    · rw [keep_Ints.l11] at hres
      refine rn_seq ?_
      refine rn_seq ?_
      refine rn_q [] [0, 1, 5, 14] [(0, .v (.slice A2 a1.length k2)), (1, .v (.slice A4 a3.length k4)), (5, I x6), (14, B (decide (x6 < (a1.length : Int))))] [] (by kernel_rfl) trivial (fin_next ?_)
      refine rn_cond (decide (x6 < (a1.length : Int))) (by kernel_rfl) (fun c12 => ?_) (fun c12 => ?_)
      · rw [if_pos (of_decide_eq_true c12)] at hres
        refine rn_skip (fin_next ?_)
        refine rn_seq ?_
        refine rn_block ?_
        refine rn_seq ?_
        refine bind_elim hres fun y13 hy13 hres => ?_
        refine bind_elim hres fun y14 hy14 hres => ?_
        refine rn_held (hden [] [] ++ F) (by kernel_rfl) ?_
        refine rh_q [] 0 [0, 1, 2, 3, 4, 5, 6, 7, 8] [(2, .v (elP A2 (x6.toNat * 1 + 0))), (3, I y13), (6, .v (elP A4 (x6.toNat * 1 + 0))), (7, I y14)] [0, 1, 5, 25] [(0, .v (.slice A2 a1.length k2)), (1, .v (.slice A4 a3.length k4)), (5, I x6), (25, B (y13 != y14))] [true, true, true, true, true, true, true, true, true] [(smIa 31 (.slice A2 a1.length k2) (.int .i64 x6), elP A2 (x6.toNat * 1 + 0)), (smLd 3 (elP A2 (x6.toNat * 1 + 0)), .int .i64 y13), (smIa 31 (.slice A4 a3.length k4) (.int .i64 x6), elP A4 (x6.toNat * 1 + 0)), (smLd 3 (elP A4 (x6.toNat * 1 + 0)), .int .i64 y14)] rfl (by kernel_rfl) rfl [] [] (by kernel_rfl) (by kernel_rfl) ⟨ob_ia (E := (eI .i64)) (U := 3) (i := x6) (sz := 1) (by kernel_rfl) (by kernel_rfl) (by kernel_rfl) hA2.app hy13, ⟨ob_ld1 (E := (eI .i64)) (i := x6) (sz := 1) (o := 0) (d := (.int .i64)) (by kernel_rfl) (by kernel_rfl) (by kernel_rfl) (by kernel_rfl) hA2.app hy13, ⟨ob_ia (E := (eI .i64)) (U := 3) (i := x6) (sz := 1) (by kernel_rfl) (by kernel_rfl) (by kernel_rfl) hA4.app hy14, ⟨ob_ld1 (E := (eI .i64)) (i := x6) (sz := 1) (o := 0) (d := (.int .i64)) (by kernel_rfl) (by kernel_rfl) (by kernel_rfl) (by kernel_rfl) hA4.app hy14, trivial⟩⟩⟩⟩ ?_
        refine rh_end (by kernel_rfl) (fin_next ?_)
        refine rn_cond (y13 != y14) (by kernel_rfl) (fun c15 => ?_) (fun c15 => ?_)
        · rw [if_neg (ne_t c15)] at hres
          refine rn_seq ?_
          refine rn_q [] [4] [(4, B false)] [] (by kernel_rfl) trivial (fin_next ?_)
          refine rn_ret (fin_block_ret (fin_then_ret (fin_then_ret (fin_block_ret (fin_then_ret ?_)))))
          refine fin_ret [.bool false] (by kernel_rfl) fun w' hw' => ?_
          have hq := Option.some.inj hres
          subst hq
          exact ⟨rfl, hw'.drop⟩
        · rw [if_pos (ne_f c15)] at hres
          refine rn_skip (fin_block (fin_next ?_))
          refine rn_q [] [0, 1, 5] [(0, .v (.slice A2 a1.length k2)), (1, .v (.slice A4 a3.length k4)), (5, I (w64 (x6 + 1)))] [] (by kernel_rfl) trivial (fin_then ?_)
          refine fin_loop (w64 (x6 + 1)) hres [] [] (by kernel_rfl) (by kernel_rfl) (by kernel_rfl)
      · rw [if_neg (of_decide_eq_false c12)] at hres
        refine rn_exit (fin_then_exit (fin_then_exit (fin_block_exit (fin_next ?_))))
        refine rn_seq ?_
        refine rn_q [] [4] [(4, B true)] [] (by kernel_rfl) trivial (fin_next ?_)
        refine rn_ret ?_
        refine fin_ret [.bool true] (by kernel_rfl) fun w' hw' => ?_
        have hq := Option.some.inj hres
        subst hq
        exact ⟨rfl, hw'.drop⟩
/- 3 flywheel/flywheellaw12.FeedOthers -/
def law12_FeedOthers (a1 : ByteArray) (a2 : Int) (a3 : Int) : Option Bool :=
  (if 30000 < (a1.size : Int) then (law12_wakes).bind fun y6 =>
  some y6 else (ref08_Split a1).bind fun y8 =>
  (ref08_Join [(⟨(w64 (a3)).tmod 32, w64 (200 + ((w64 (a3)).tmod 5)), (⟨#[97, 98, 99, 100]⟩ : ByteArray)⟩ : S_api_Part), (⟨(w64 (a3)).tmod 32, w64 (200 + ((w64 (a3)).tmod 5)), (⟨#[97, 98, 99, 100]⟩ : ByteArray)⟩ : S_api_Part)]).bind fun y13 =>
  (feed_Read y13.1 a2).bind fun y15 =>
  (if y15.2 = 120 then (if y8.2 = 0 then (cat 4398046511104 [(⟨(w64 (a3)).tmod 32, w64 (200 + ((w64 (a3)).tmod 5)), (⟨#[97, 98, 99, 100]⟩ : ByteArray)⟩ : S_api_Part)] y8.1).bind fun y24 =>
  (cat 4398046511104 y24 [(⟨(w64 (a3)).tmod 32, w64 (200 + ((w64 (a3)).tmod 5)), (⟨#[97, 98, 99, 100]⟩ : ByteArray)⟩ : S_api_Part)]).bind fun y27 =>
  (ref08_Join y27).bind fun y30 =>
  (feed_Read a1 a2).bind fun y32 =>
  (feed_Read y30.1 a2).bind fun y37 =>
  (if y32.2 = y37.2 then (keep_Reports y32.1.Reports y37.1.Reports).bind fun y43 =>
  (if y43 = true then (keep_Ints y32.1.Again y37.1.Again).bind fun y46 =>
  (if y46 = true then (law12_wakes).bind fun y49 =>
  some y49 else some false) else some false) else some false) else (law12_wakes).bind fun y22 =>
  some y22) else some false))
theorem law12_FeedOthers_ok {a1 : ByteArray} {a2 : Int} {a3 : Int} {r : Bool} (hres : law12_FeedOthers a1 a2 a3 = some r) {w0 w : World} {F : List Asn} (hw : SH w0 w (F)) :
    Calls Try.prog 3 #[.string a1, .int .i64 a2, .int .u8 a3] w fun e w' => e = .returned (.bool r) ∧ SH w0 w' (F) := by
  refine fw_enter (n := 98) (bs := []) (env := [(0, S a1), (1, I a2), (2, U .u8 a3)]) (H := []) (F := F) Try.func3 rfl (by kernel_rfl) (by kernel_rfl) (by kernel_rfl) (hw.eq (by kernel_rfl)) ?_
  unfold law12_FeedOthers at hres
  refine rn_seq ?_
  refine rn_q [] [0, 1, 2] [(0, S a1), (1, I a2), (2, U .u8 a3)] [] (by kernel_rfl) trivial (fin_next ?_)
  refine rn_seq ?_
  refine rn_seq ?_
  refine rn_q [] [0, 1, 2, 22] [(0, S a1), (1, I a2), (2, U .u8 a3), (22, B (decide (30000 < (a1.size : Int))))] [] (by kernel_rfl) trivial (fin_next ?_)
  refine rn_cond (decide (30000 < (a1.size : Int))) (by kernel_rfl) (fun c4 => ?_) (fun c4 => ?_)
  · rw [if_pos (of_decide_eq_true c4)] at hres
    refine rn_seq ?_
    refine rn_text ?_
    refine bind_elim hres fun y6 hy6 hres => ?_
    refine ro_op (by kernel_rfl) (op_call (f := 4) (xs := #[]) (ats := #[]) (d := (some 23)) (args := #[]) (by kernel_rfl) (by kernel_rfl) (by kernel_rfl) (by kernel_rfl) fun w hw => (law12_wakes_ok hy6 hw).mono ?_)
    rintro _ w1 ⟨rfl, hw1⟩
    refine ⟨_, [], [], _, rfl, hw1.eq (by kernel_rfl), rfl, mt_same, ro_fin ?_⟩
    refine ro_q 1 [] [6] [(6, B y6)] [] (by kernel_rfl) trivial ?_
    refine ro_end (by kernel_rfl) (fin_next ?_)
    refine rn_ret (fin_then_ret ?_)
    refine fin_ret [.bool y6] (by kernel_rfl) fun w' hw' => ?_
    have hq := Option.some.inj hres
    subst hq
    exact ⟨rfl, hw'.drop⟩
  · rw [if_neg (of_decide_eq_false c4)] at hres
    refine rn_skip (fin_next ?_)
    refine rn_seq ?_
    refine rn_text ?_
    refine ro_q 1 [] [0, 1, 2, 25] [(0, S a1), (1, I a2), (2, U .u8 a3), (25, S a1)] [] (by kernel_rfl) trivial ?_
    refine bind_elim hres fun y8 hy8 hres => ?_
    refine ro_op (by kernel_rfl) (op_call (f := 5) (xs := #[(.tmp 25)]) (ats := #[9]) (d := (some 26)) (args := #[.string a1]) (by kernel_rfl) (by kernel_rfl) (by kernel_rfl) (by kernel_rfl) fun w hw => (ref08_Split_ok hy8 hw).mono ?_)
    rintro _ w1 ⟨A9, k9, rfl, hw1⟩
    refine ⟨_, [], [.a (slA 27 e_api_Part A9 k9 y8.1)], _, rfl, hw1.eq (by kernel_rfl), rfl, mt_same, ro_fin ?_⟩
    refine ro_q 5 [] [0, 1, 2, 7, 8] [(0, S a1), (1, I a2), (2, U .u8 a3), (7, .v (.slice A9 y8.1.length k9)), (8, I y8.2)] [] (by kernel_rfl) trivial ?_
    refine ro_end (by kernel_rfl) (fin_next ?_)
    refine rn_seq ?_
    refine rn_text ?_
    refine ro_q 8 [] [0, 1, 7, 8, 36] [(0, S a1), (1, I a2), (7, .v (.slice A9 y8.1.length k9)), (8, I y8.2), (36, .v (.agg #[.int .i64 ((w64 (a3)).tmod 32), .int .i64 (w64 (200 + ((w64 (a3)).tmod 5))), .string (⟨#[97, 98, 99, 100]⟩ : ByteArray)]))] [] (by kernel_rfl) trivial ?_
    refine ro_op (by kernel_rfl) (op_alloc 27 9 (.agg #[.int .i64 0, .int .i64 0, .string (⟨#[]⟩ : ByteArray)]) [I 0, I 0, S (⟨#[]⟩ : ByteArray)] (fun b10 => [b10]) (fun b10 => [.c 0 [I 0, I 0, S (⟨#[]⟩ : ByteArray)] 27, .a (slA 27 e_api_Part A9 k9 y8.1)]) (by kernel_rfl) (by kernel_rfl) (by kernel_rfl) (by kernel_rfl) 0 (fun _ => by kernel_rfl) (fun _ => mt_bs (by kernel_rfl)) (fun _ => by kernel_rfl) (fun b10 => ro_fin ?_))
    refine ro_op (by kernel_rfl) (op_store 27 (.tmp 9) (.tmp 36) 0 0 (.v (.agg #[.int .i64 ((w64 (a3)).tmod 32), .int .i64 (w64 (200 + ((w64 (a3)).tmod 5))), .string (⟨#[97, 98, 99, 100]⟩ : ByteArray)])) [.c 0 [I ((w64 (a3)).tmod 32), I (w64 (200 + ((w64 (a3)).tmod 5))), S (⟨#[97, 98, 99, 100]⟩ : ByteArray)] 27, .a (slA 27 e_api_Part A9 k9 y8.1)] (by kernel_rfl) (by kernel_rfl) (by kernel_rfl) (by kernel_rfl) (ro_fin ?_))
    refine ro_end (by kernel_rfl) (fin_next ?_)
    refine rn_seq ?_
    refine rn_text ?_
    refine ro_q 2 [] [0, 1, 7, 8, 9, 38, 39] [(0, S a1), (1, I a2), (7, .v (.slice A9 y8.1.length k9)), (8, I y8.2), (9, .p 0 0), (38, .v (.agg #[.int .i64 ((w64 (a3)).tmod 32), .int .i64 (w64 (200 + ((w64 (a3)).tmod 5))), .string (⟨#[97, 98, 99, 100]⟩ : ByteArray)])), (39, .v (.agg #[.int .i64 ((w64 (a3)).tmod 32), .int .i64 (w64 (200 + ((w64 (a3)).tmod 5))), .string (⟨#[97, 98, 99, 100]⟩ : ByteArray)]))] [] (by kernel_rfl) trivial ?_
    refine ro_op (by kernel_rfl) (op_bslice (E := e_api_Part) 23 27 2 #[(0, (.tmp 38)), (1, (.tmp 39))] 40 [(⟨(w64 (a3)).tmod 32, w64 (200 + ((w64 (a3)).tmod 5)), (⟨#[97, 98, 99, 100]⟩ : ByteArray)⟩ : S_api_Part), (⟨(w64 (a3)).tmod 32, w64 (200 + ((w64 (a3)).tmod 5)), (⟨#[97, 98, 99, 100]⟩ : ByteArray)⟩ : S_api_Part)] (by kernel_rfl) (by kernel_rfl) (by kernel_rfl) rfl (by decide) (by kernel_rfl) (fun b11 => ro_fin ?_))
    refine bind_elim hres fun y13 hy13 hres => ?_
    refine ro_op (by kernel_rfl) (op_call (f := 6) (xs := #[(.tmp 40)]) (ats := #[23]) (d := (some 41)) (args := #[.slice (some ⟨b11, 0, none⟩) 2 2]) (by kernel_rfl) (by kernel_rfl) (by kernel_rfl) (by kernel_rfl) fun w hw => (ref08_Join_ok hy13 (row_at (U := 27) (E := e_api_Part) (A := (some ⟨b11, 0, none⟩)) (c := 2) (L := [(⟨(w64 (a3)).tmod 32, w64 (200 + ((w64 (a3)).tmod 5)), (⟨#[97, 98, 99, 100]⟩ : ByteArray)⟩ : S_api_Part), (⟨(w64 (a3)).tmod 32, w64 (200 + ((w64 (a3)).tmod 5)), (⟨#[97, 98, 99, 100]⟩ : ByteArray)⟩ : S_api_Part)]) 0 (by kernel_rfl)) hw).mono ?_)
    rintro _ w1 ⟨rfl, hw1⟩
    refine ⟨_, [b10], [.a (slA 27 e_api_Part (some ⟨b11, 0, none⟩) 2 [(⟨(w64 (a3)).tmod 32, w64 (200 + ((w64 (a3)).tmod 5)), (⟨#[97, 98, 99, 100]⟩ : ByteArray)⟩ : S_api_Part), (⟨(w64 (a3)).tmod 32, w64 (200 + ((w64 (a3)).tmod 5)), (⟨#[97, 98, 99, 100]⟩ : ByteArray)⟩ : S_api_Part)]), .c 0 [I ((w64 (a3)).tmod 32), I (w64 (200 + ((w64 (a3)).tmod 5))), S (⟨#[97, 98, 99, 100]⟩ : ByteArray)] 27, .a (slA 27 e_api_Part A9 k9 y8.1)], _, rfl, hw1.eq (by kernel_rfl), rfl, mt_same, ro_fin ?_⟩
    refine ro_q 5 [] [0, 1, 7, 8, 9, 10] [(0, S a1), (1, I a2), (7, .v (.slice A9 y8.1.length k9)), (8, I y8.2), (9, .p 0 0), (10, S y13.1)] [] (by kernel_rfl) trivial ?_
    refine ro_end (by kernel_rfl) (fin_next ?_)
    refine rn_seq ?_
    refine rn_text ?_
    refine ro_q 2 [] [0, 1, 7, 8, 9, 45, 46] [(0, S a1), (1, I a2), (7, .v (.slice A9 y8.1.length k9)), (8, I y8.2), (9, .p 0 0), (45, S y13.1), (46, I a2)] [] (by kernel_rfl) trivial ?_
    refine bind_elim hres fun y15 hy15 hres => ?_
    refine ro_op (by kernel_rfl) (op_call (f := 7) (xs := #[(.tmp 45), (.tmp 46)]) (ats := #[9, 2]) (d := (some 47)) (args := #[.string y13.1, .int .i64 a2]) (by kernel_rfl) (by kernel_rfl) (by kernel_rfl) (by kernel_rfl) fun w hw => (feed_Read_ok hy15 hw).mono ?_)
    rintro _ w1 ⟨A16, k16, A17, k17, rfl, hw1⟩
    refine ⟨_, [b10], [.a (slA 45 e_api_Report A16 k16 y15.1.Reports), .a (slA 3 (eI .i64) A17 k17 y15.1.Again), .a (slA 27 e_api_Part (some ⟨b11, 0, none⟩) 2 [(⟨(w64 (a3)).tmod 32, w64 (200 + ((w64 (a3)).tmod 5)), (⟨#[97, 98, 99, 100]⟩ : ByteArray)⟩ : S_api_Part), (⟨(w64 (a3)).tmod 32, w64 (200 + ((w64 (a3)).tmod 5)), (⟨#[97, 98, 99, 100]⟩ : ByteArray)⟩ : S_api_Part)]), .c 0 [I ((w64 (a3)).tmod 32), I (w64 (200 + ((w64 (a3)).tmod 5))), S (⟨#[97, 98, 99, 100]⟩ : ByteArray)] 27, .a (slA 27 e_api_Part A9 k9 y8.1)], _, rfl, hw1.eq (by kernel_rfl), rfl, mt_same, ro_fin ?_⟩
    refine ro_q 3 [] [0, 1, 7, 8, 9, 48, 49] [(0, S a1), (1, I a2), (7, .v (.slice A9 y8.1.length k9)), (8, I y8.2), (9, .p 0 0), (48, .v (.agg #[.slice A16 y15.1.Reports.length k16, .slice A17 y15.1.Again.length k17])), (49, I y15.2)] [] (by kernel_rfl) trivial ?_
    refine ro_op (by kernel_rfl) (op_alloc 33 12 (.agg #[.slice none 0 0, .slice none 0 0]) [.v (.slice none 0 0), .v (.slice none 0 0)] (fun b18 => [b10, b18]) (fun b18 => [.c 1 [.v (.slice none 0 0), .v (.slice none 0 0)] 33, .a (slA 45 e_api_Report A16 k16 y15.1.Reports), .a (slA 3 (eI .i64) A17 k17 y15.1.Again), .a (slA 27 e_api_Part (some ⟨b11, 0, none⟩) 2 [(⟨(w64 (a3)).tmod 32, w64 (200 + ((w64 (a3)).tmod 5)), (⟨#[97, 98, 99, 100]⟩ : ByteArray)⟩ : S_api_Part), (⟨(w64 (a3)).tmod 32, w64 (200 + ((w64 (a3)).tmod 5)), (⟨#[97, 98, 99, 100]⟩ : ByteArray)⟩ : S_api_Part)]), .c 0 [I ((w64 (a3)).tmod 32), I (w64 (200 + ((w64 (a3)).tmod 5))), S (⟨#[97, 98, 99, 100]⟩ : ByteArray)] 27, .a (slA 27 e_api_Part A9 k9 y8.1)]) (by kernel_rfl) (by kernel_rfl) (by kernel_rfl) (by kernel_rfl) 1 (fun _ => by kernel_rfl) (fun _ => mt_bs (by kernel_rfl)) (fun _ => by kernel_rfl) (fun b18 => ro_fin ?_))
    refine ro_op (by kernel_rfl) (op_store 33 (.tmp 12) (.tmp 48) 1 0 (.v (.agg #[.slice A16 y15.1.Reports.length k16, .slice A17 y15.1.Again.length k17])) [.c 1 [.v (.slice A16 y15.1.Reports.length k16), .v (.slice A17 y15.1.Again.length k17)] 33, .a (slA 45 e_api_Report A16 k16 y15.1.Reports), .a (slA 3 (eI .i64) A17 k17 y15.1.Again), .a (slA 27 e_api_Part (some ⟨b11, 0, none⟩) 2 [(⟨(w64 (a3)).tmod 32, w64 (200 + ((w64 (a3)).tmod 5)), (⟨#[97, 98, 99, 100]⟩ : ByteArray)⟩ : S_api_Part), (⟨(w64 (a3)).tmod 32, w64 (200 + ((w64 (a3)).tmod 5)), (⟨#[97, 98, 99, 100]⟩ : ByteArray)⟩ : S_api_Part)]), .c 0 [I ((w64 (a3)).tmod 32), I (w64 (200 + ((w64 (a3)).tmod 5))), S (⟨#[97, 98, 99, 100]⟩ : ByteArray)] 27, .a (slA 27 e_api_Part A9 k9 y8.1)] (by kernel_rfl) (by kernel_rfl) (by kernel_rfl) (by kernel_rfl) (ro_fin ?_))
    refine ro_q 1 [] [0, 1, 7, 8, 9, 13] [(0, S a1), (1, I a2), (7, .v (.slice A9 y8.1.length k9)), (8, I y8.2), (9, .p 0 0), (13, I y15.2)] [] (by kernel_rfl) trivial ?_
    refine ro_end (by kernel_rfl) (fin_next ?_)
    refine rn_seq ?_
    refine rn_seq ?_
    refine rn_q [] [0, 1, 7, 8, 9, 51] [(0, S a1), (1, I a2), (7, .v (.slice A9 y8.1.length k9)), (8, I y8.2), (9, .p 0 0), (51, B (y15.2 != 120))] [] (by kernel_rfl) trivial (fin_next ?_)
    refine rn_cond (y15.2 != 120) (by kernel_rfl) (fun c19 => ?_) (fun c19 => ?_)
    · rw [if_neg (ne_t c19)] at hres
      refine rn_seq ?_
      refine rn_q [] [6] [(6, B false)] [] (by kernel_rfl) trivial (fin_next ?_)
      refine rn_ret (fin_then_ret ?_)
      refine fin_ret [.bool false] (by kernel_rfl) fun w' hw' => ?_
      have hq := Option.some.inj hres
      subst hq
      exact ⟨rfl, hw'.drop⟩
    · rw [if_pos (ne_f c19)] at hres
      refine rn_skip (fin_next ?_)
      refine rn_seq ?_
      refine rn_seq ?_
      refine rn_q [] [0, 1, 7, 9, 53] [(0, S a1), (1, I a2), (7, .v (.slice A9 y8.1.length k9)), (9, .p 0 0), (53, B (y8.2 != 0))] [] (by kernel_rfl) trivial (fin_next ?_)
      refine rn_cond (y8.2 != 0) (by kernel_rfl) (fun c20 => ?_) (fun c20 => ?_)
      · rw [if_neg (ne_t c20)] at hres
        refine rn_seq ?_
        refine rn_text ?_
        refine bind_elim hres fun y22 hy22 hres => ?_
        refine ro_op (by kernel_rfl) (op_call (f := 4) (xs := #[]) (ats := #[]) (d := (some 54)) (args := #[]) (by kernel_rfl) (by kernel_rfl) (by kernel_rfl) (by kernel_rfl) fun w hw => (law12_wakes_ok hy22 hw).mono ?_)
        rintro _ w1 ⟨rfl, hw1⟩
        refine ⟨_, [b10, b18], [.c 1 [.v (.slice A16 y15.1.Reports.length k16), .v (.slice A17 y15.1.Again.length k17)] 33, .a (slA 45 e_api_Report A16 k16 y15.1.Reports), .a (slA 3 (eI .i64) A17 k17 y15.1.Again), .a (slA 27 e_api_Part (some ⟨b11, 0, none⟩) 2 [(⟨(w64 (a3)).tmod 32, w64 (200 + ((w64 (a3)).tmod 5)), (⟨#[97, 98, 99, 100]⟩ : ByteArray)⟩ : S_api_Part), (⟨(w64 (a3)).tmod 32, w64 (200 + ((w64 (a3)).tmod 5)), (⟨#[97, 98, 99, 100]⟩ : ByteArray)⟩ : S_api_Part)]), .c 0 [I ((w64 (a3)).tmod 32), I (w64 (200 + ((w64 (a3)).tmod 5))), S (⟨#[97, 98, 99, 100]⟩ : ByteArray)] 27, .a (slA 27 e_api_Part A9 k9 y8.1)], _, rfl, hw1.eq (by kernel_rfl), rfl, mt_same, ro_fin ?_⟩
        refine ro_q 1 [] [6] [(6, B y22)] [] (by kernel_rfl) trivial ?_
        refine ro_end (by kernel_rfl) (fin_next ?_)
        refine rn_ret (fin_then_ret ?_)
        refine fin_ret [.bool y22] (by kernel_rfl) fun w' hw' => ?_
        have hq := Option.some.inj hres
        subst hq
        exact ⟨rfl, hw'.drop⟩
      · rw [if_pos (ne_f c20)] at hres
        refine rn_skip (fin_next ?_)
        refine rn_seq ?_
        refine bind_elim hres fun y24 hy24 hres => ?_
        refine bind_elim hres fun y27 hy27 hres => ?_
        refine bind_elim hres fun y30 hy30 hres => ?_
        refine rn_meet (V := Nat × Option Addr × Nat × Nat × Option Addr × Nat) (J := fun _ => True) (sv := fun v => ⟨[b10, b18], [(0, S a1), (1, I a2), (14, S y30.1)], [.a (slA 27 e_api_Part v.2.2.2.2.1 v.2.2.2.2.2 y27), .a (slA 27 e_api_Part (some ⟨v.2.2.2.1, 0, none⟩) 1 [(⟨(w64 (a3)).tmod 32, w64 (200 + ((w64 (a3)).tmod 5)), (⟨#[97, 98, 99, 100]⟩ : ByteArray)⟩ : S_api_Part)]), .c 1 [.v (.slice A16 y15.1.Reports.length k16), .v (.slice A17 y15.1.Again.length k17)] 33, .a (slA 45 e_api_Report A16 k16 y15.1.Reports), .a (slA 3 (eI .i64) A17 k17 y15.1.Again), .a (slA 27 e_api_Part (some ⟨b11, 0, none⟩) 2 [(⟨(w64 (a3)).tmod 32, w64 (200 + ((w64 (a3)).tmod 5)), (⟨#[97, 98, 99, 100]⟩ : ByteArray)⟩ : S_api_Part), (⟨(w64 (a3)).tmod 32, w64 (200 + ((w64 (a3)).tmod 5)), (⟨#[97, 98, 99, 100]⟩ : ByteArray)⟩ : S_api_Part)]), .c 0 [I ((w64 (a3)).tmod 32), I (w64 (200 + ((w64 (a3)).tmod 5))), S (⟨#[97, 98, 99, 100]⟩ : ByteArray)] 27, .a (slA 27 e_api_Part A9 k9 y8.1)]⟩) ?_ ?_
        · refine rn_held (hden [b10, b18] [.c 1 [.v (.slice A16 y15.1.Reports.length k16), .v (.slice A17 y15.1.Again.length k17)] 33, .a (slA 45 e_api_Report A16 k16 y15.1.Reports), .a (slA 3 (eI .i64) A17 k17 y15.1.Again), .a (slA 27 e_api_Part (some ⟨b11, 0, none⟩) 2 [(⟨(w64 (a3)).tmod 32, w64 (200 + ((w64 (a3)).tmod 5)), (⟨#[97, 98, 99, 100]⟩ : ByteArray)⟩ : S_api_Part), (⟨(w64 (a3)).tmod 32, w64 (200 + ((w64 (a3)).tmod 5)), (⟨#[97, 98, 99, 100]⟩ : ByteArray)⟩ : S_api_Part)]), .c 0 [I ((w64 (a3)).tmod 32), I (w64 (200 + ((w64 (a3)).tmod 5))), S (⟨#[97, 98, 99, 100]⟩ : ByteArray)] 27, .a (slA 27 e_api_Part A9 k9 y8.1)] ++ F) (by kernel_rfl) ?_
          refine rh_q [.c 1 [.v (.slice A16 y15.1.Reports.length k16), .v (.slice A17 y15.1.Again.length k17)] 33, .a (slA 45 e_api_Report A16 k16 y15.1.Reports), .a (slA 3 (eI .i64) A17 k17 y15.1.Again), .a (slA 27 e_api_Part (some ⟨b11, 0, none⟩) 2 [(⟨(w64 (a3)).tmod 32, w64 (200 + ((w64 (a3)).tmod 5)), (⟨#[97, 98, 99, 100]⟩ : ByteArray)⟩ : S_api_Part), (⟨(w64 (a3)).tmod 32, w64 (200 + ((w64 (a3)).tmod 5)), (⟨#[97, 98, 99, 100]⟩ : ByteArray)⟩ : S_api_Part)]), .c 0 [I ((w64 (a3)).tmod 32), I (w64 (200 + ((w64 (a3)).tmod 5))), S (⟨#[97, 98, 99, 100]⟩ : ByteArray)] 27, .a (slA 27 e_api_Part A9 k9 y8.1)] 10 [0, 2, 4] [] [0, 1, 56, 58, 60] [(0, S a1), (1, I a2), (56, .v (.agg #[.int .i64 ((w64 (a3)).tmod 32), .int .i64 (w64 (200 + ((w64 (a3)).tmod 5))), .string (⟨#[97, 98, 99, 100]⟩ : ByteArray)])), (58, .v (.slice A9 y8.1.length k9)), (60, .v (.agg #[.int .i64 ((w64 (a3)).tmod 32), .int .i64 (w64 (200 + ((w64 (a3)).tmod 5))), .string (⟨#[97, 98, 99, 100]⟩ : ByteArray)]))] [true, false, true, false, true, false, false, false, false, false, false, false, false] [] rfl (by kernel_rfl) rfl [0, 0, 0, 0, 0, 0] [] (by kernel_rfl) (by kernel_rfl) trivial ?_
          refine rh_2 1 5 (by kernel_rfl) ?_ ?_
          · refine op_bslice (E := e_api_Part) 23 27 1 #[(0, (.tmp 56))] 57 [(⟨(w64 (a3)).tmod 32, w64 (200 + ((w64 (a3)).tmod 5)), (⟨#[97, 98, 99, 100]⟩ : ByteArray)⟩ : S_api_Part)] (by kernel_rfl) (by kernel_rfl) (by kernel_rfl) rfl (by decide) (by kernel_rfl) (fun b23 => fin_held [.c 1 [.v (.slice A16 y15.1.Reports.length k16), .v (.slice A17 y15.1.Again.length k17)] 33, .a (slA 45 e_api_Report A16 k16 y15.1.Reports), .a (slA 3 (eI .i64) A17 k17 y15.1.Again), .a (slA 27 e_api_Part (some ⟨b11, 0, none⟩) 2 [(⟨(w64 (a3)).tmod 32, w64 (200 + ((w64 (a3)).tmod 5)), (⟨#[97, 98, 99, 100]⟩ : ByteArray)⟩ : S_api_Part), (⟨(w64 (a3)).tmod 32, w64 (200 + ((w64 (a3)).tmod 5)), (⟨#[97, 98, 99, 100]⟩ : ByteArray)⟩ : S_api_Part)]), .c 0 [I ((w64 (a3)).tmod 32), I (w64 (200 + ((w64 (a3)).tmod 5))), S (⟨#[97, 98, 99, 100]⟩ : ByteArray)] 27, .a (slA 27 e_api_Part A9 k9 y8.1)] [true, true, true, false, true, false, false, false, false, false, false, false, false] (by kernel_rfl) rfl [1, 1, 1, 1, 1, 1] [slA 27 e_api_Part (some ⟨b23, 0, none⟩) 1 [(⟨(w64 (a3)).tmod 32, w64 (200 + ((w64 (a3)).tmod 5)), (⟨#[97, 98, 99, 100]⟩ : ByteArray)⟩ : S_api_Part)]] (by kernel_rfl) ?_)
            refine rh_2 3 5 (by kernel_rfl) ?_ ?_
            · refine op_append (E := e_api_Part) (lim := 4398046511104) 23 23 27 (.tmp 57) (.tmp 58) 59 (some ⟨b23, 0, none⟩) (.slice A9 y8.1.length k9) 1 [(⟨(w64 (a3)).tmod 32, w64 (200 + ((w64 (a3)).tmod 5)), (⟨#[97, 98, 99, 100]⟩ : ByteArray)⟩ : S_api_Part)] y8.1 ((Try.prog.info? 27).get rfl) (((Try.prog.info? 27).get rfl).zero.get rfl) 0 [.c 1 [.v (.slice A16 y15.1.Reports.length k16), .v (.slice A17 y15.1.Again.length k17)] 33, .a (slA 45 e_api_Report A16 k16 y15.1.Reports), .a (slA 3 (eI .i64) A17 k17 y15.1.Again), .a (slA 27 e_api_Part (some ⟨b11, 0, none⟩) 2 [(⟨(w64 (a3)).tmod 32, w64 (200 + ((w64 (a3)).tmod 5)), (⟨#[97, 98, 99, 100]⟩ : ByteArray)⟩ : S_api_Part), (⟨(w64 (a3)).tmod 32, w64 (200 + ((w64 (a3)).tmod 5)), (⟨#[97, 98, 99, 100]⟩ : ByteArray)⟩ : S_api_Part)]), .c 0 [I ((w64 (a3)).tmod 32), I (w64 (200 + ((w64 (a3)).tmod 5))), S (⟨#[97, 98, 99, 100]⟩ : ByteArray)] 27, .a (slA 27 e_api_Part A9 k9 y8.1)] (by kernel_rfl) (by kernel_rfl) (by kernel_rfl) (by kernel_rfl) (by kernel_rfl) (by kernel_rfl) (by kernel_rfl) (by kernel_rfl) (by kernel_rfl) (Nat.le_of_ble_eq_true (by kernel_rfl)) (by decide) hy24 (by kernel_rfl) (ap_sl (e := 27) (E := e_api_Part) (B := A9) (c := k9) (M := y8.1) (by kernel_rfl) (by kernel_rfl) (row_at (U := 27) (E := e_api_Part) (A := A9) (c := k9) (L := y8.1) 6 (by kernel_rfl))) (fun A25 k25 => fin_held [.c 1 [.v (.slice A16 y15.1.Reports.length k16), .v (.slice A17 y15.1.Again.length k17)] 33, .a (slA 45 e_api_Report A16 k16 y15.1.Reports), .a (slA 3 (eI .i64) A17 k17 y15.1.Again), .a (slA 27 e_api_Part (some ⟨b11, 0, none⟩) 2 [(⟨(w64 (a3)).tmod 32, w64 (200 + ((w64 (a3)).tmod 5)), (⟨#[97, 98, 99, 100]⟩ : ByteArray)⟩ : S_api_Part), (⟨(w64 (a3)).tmod 32, w64 (200 + ((w64 (a3)).tmod 5)), (⟨#[97, 98, 99, 100]⟩ : ByteArray)⟩ : S_api_Part)]), .c 0 [I ((w64 (a3)).tmod 32), I (w64 (200 + ((w64 (a3)).tmod 5))), S (⟨#[97, 98, 99, 100]⟩ : ByteArray)] 27, .a (slA 27 e_api_Part A9 k9 y8.1)] [true, true, true, true, true, false, false, false, false, false, false, false, false] (by kernel_rfl) rfl [1, 1, 1, 1, 1, 1] [slA 27 e_api_Part A25 k25 y24] (by kernel_rfl) ?_)
              refine rh_1 5 (by kernel_rfl) ?_
              refine op_bslice (E := e_api_Part) 23 27 1 #[(0, (.tmp 60))] 61 [(⟨(w64 (a3)).tmod 32, w64 (200 + ((w64 (a3)).tmod 5)), (⟨#[97, 98, 99, 100]⟩ : ByteArray)⟩ : S_api_Part)] (by kernel_rfl) (by kernel_rfl) (by kernel_rfl) rfl (by decide) (by kernel_rfl) (fun b26 => fin_held [.c 1 [.v (.slice A16 y15.1.Reports.length k16), .v (.slice A17 y15.1.Again.length k17)] 33, .a (slA 45 e_api_Report A16 k16 y15.1.Reports), .a (slA 3 (eI .i64) A17 k17 y15.1.Again), .a (slA 27 e_api_Part (some ⟨b11, 0, none⟩) 2 [(⟨(w64 (a3)).tmod 32, w64 (200 + ((w64 (a3)).tmod 5)), (⟨#[97, 98, 99, 100]⟩ : ByteArray)⟩ : S_api_Part), (⟨(w64 (a3)).tmod 32, w64 (200 + ((w64 (a3)).tmod 5)), (⟨#[97, 98, 99, 100]⟩ : ByteArray)⟩ : S_api_Part)]), .c 0 [I ((w64 (a3)).tmod 32), I (w64 (200 + ((w64 (a3)).tmod 5))), S (⟨#[97, 98, 99, 100]⟩ : ByteArray)] 27, .a (slA 27 e_api_Part A9 k9 y8.1)] [true, true, true, true, true, true, false, false, false, false, false, false, false] (by kernel_rfl) rfl [2, 2, 2, 2, 2, 2] [slA 27 e_api_Part (some ⟨b26, 0, none⟩) 1 [(⟨(w64 (a3)).tmod 32, w64 (200 + ((w64 (a3)).tmod 5)), (⟨#[97, 98, 99, 100]⟩ : ByteArray)⟩ : S_api_Part)], slA 27 e_api_Part A25 k25 y24] (by kernel_rfl) ?_)
              refine rh_1 6 (by kernel_rfl) ?_
              refine op_append (E := e_api_Part) (lim := 4398046511104) 23 23 27 (.tmp 59) (.tmp 61) 62 A25 (.slice (some ⟨b26, 0, none⟩) 1 1) k25 y24 [(⟨(w64 (a3)).tmod 32, w64 (200 + ((w64 (a3)).tmod 5)), (⟨#[97, 98, 99, 100]⟩ : ByteArray)⟩ : S_api_Part)] ((Try.prog.info? 27).get rfl) (((Try.prog.info? 27).get rfl).zero.get rfl) 1 [.a (slA 27 e_api_Part (some ⟨b26, 0, none⟩) 1 [(⟨(w64 (a3)).tmod 32, w64 (200 + ((w64 (a3)).tmod 5)), (⟨#[97, 98, 99, 100]⟩ : ByteArray)⟩ : S_api_Part)]), .c 1 [.v (.slice A16 y15.1.Reports.length k16), .v (.slice A17 y15.1.Again.length k17)] 33, .a (slA 45 e_api_Report A16 k16 y15.1.Reports), .a (slA 3 (eI .i64) A17 k17 y15.1.Again), .a (slA 27 e_api_Part (some ⟨b11, 0, none⟩) 2 [(⟨(w64 (a3)).tmod 32, w64 (200 + ((w64 (a3)).tmod 5)), (⟨#[97, 98, 99, 100]⟩ : ByteArray)⟩ : S_api_Part), (⟨(w64 (a3)).tmod 32, w64 (200 + ((w64 (a3)).tmod 5)), (⟨#[97, 98, 99, 100]⟩ : ByteArray)⟩ : S_api_Part)]), .c 0 [I ((w64 (a3)).tmod 32), I (w64 (200 + ((w64 (a3)).tmod 5))), S (⟨#[97, 98, 99, 100]⟩ : ByteArray)] 27, .a (slA 27 e_api_Part A9 k9 y8.1)] (by kernel_rfl) (by kernel_rfl) (by kernel_rfl) (by kernel_rfl) (by kernel_rfl) (by kernel_rfl) (by kernel_rfl) (by kernel_rfl) (by kernel_rfl) (Nat.le_of_ble_eq_true (by kernel_rfl)) (by decide) hy27 (by kernel_rfl) (ap_sl (e := 27) (E := e_api_Part) (B := (some ⟨b26, 0, none⟩)) (c := 1) (M := [(⟨(w64 (a3)).tmod 32, w64 (200 + ((w64 (a3)).tmod 5)), (⟨#[97, 98, 99, 100]⟩ : ByteArray)⟩ : S_api_Part)]) (by kernel_rfl) (by kernel_rfl) (row_at (U := 27) (E := e_api_Part) (A := (some ⟨b26, 0, none⟩)) (c := 1) (L := [(⟨(w64 (a3)).tmod 32, w64 (200 + ((w64 (a3)).tmod 5)), (⟨#[97, 98, 99, 100]⟩ : ByteArray)⟩ : S_api_Part)]) 0 (by kernel_rfl))) (fun A28 k28 => fin_held [.c 1 [.v (.slice A16 y15.1.Reports.length k16), .v (.slice A17 y15.1.Again.length k17)] 33, .a (slA 45 e_api_Report A16 k16 y15.1.Reports), .a (slA 3 (eI .i64) A17 k17 y15.1.Again), .a (slA 27 e_api_Part (some ⟨b11, 0, none⟩) 2 [(⟨(w64 (a3)).tmod 32, w64 (200 + ((w64 (a3)).tmod 5)), (⟨#[97, 98, 99, 100]⟩ : ByteArray)⟩ : S_api_Part), (⟨(w64 (a3)).tmod 32, w64 (200 + ((w64 (a3)).tmod 5)), (⟨#[97, 98, 99, 100]⟩ : ByteArray)⟩ : S_api_Part)]), .c 0 [I ((w64 (a3)).tmod 32), I (w64 (200 + ((w64 (a3)).tmod 5))), S (⟨#[97, 98, 99, 100]⟩ : ByteArray)] 27, .a (slA 27 e_api_Part A9 k9 y8.1)] [true, true, true, true, true, true, true, false, false, false, false, false, false] (by kernel_rfl) rfl [2, 2, 2, 2, 2, 2] [slA 27 e_api_Part A28 k28 y27, slA 27 e_api_Part (some ⟨b26, 0, none⟩) 1 [(⟨(w64 (a3)).tmod 32, w64 (200 + ((w64 (a3)).tmod 5)), (⟨#[97, 98, 99, 100]⟩ : ByteArray)⟩ : S_api_Part)]] (by kernel_rfl) ?_)
              refine rh_1 7 (by kernel_rfl) ?_
              refine op_call (f := 6) (xs := #[(.tmp 62)]) (ats := #[23]) (d := (some 63)) (args := #[.slice A28 y27.length k28]) (by kernel_rfl) (by kernel_rfl) (by kernel_rfl) (by kernel_rfl) fun w hw => (ref08_Join_ok hy30 (row_at (U := 27) (E := e_api_Part) (A := A28) (c := k28) (L := y27) 0 (by kernel_rfl)) hw).mono ?_
              rintro _ w1 ⟨rfl, hw1⟩
              refine ⟨_, [b10, b18], [.a (slA 27 e_api_Part A28 k28 y27), .a (slA 27 e_api_Part (some ⟨b26, 0, none⟩) 1 [(⟨(w64 (a3)).tmod 32, w64 (200 + ((w64 (a3)).tmod 5)), (⟨#[97, 98, 99, 100]⟩ : ByteArray)⟩ : S_api_Part)]), .c 1 [.v (.slice A16 y15.1.Reports.length k16), .v (.slice A17 y15.1.Again.length k17)] 33, .a (slA 45 e_api_Report A16 k16 y15.1.Reports), .a (slA 3 (eI .i64) A17 k17 y15.1.Again), .a (slA 27 e_api_Part (some ⟨b11, 0, none⟩) 2 [(⟨(w64 (a3)).tmod 32, w64 (200 + ((w64 (a3)).tmod 5)), (⟨#[97, 98, 99, 100]⟩ : ByteArray)⟩ : S_api_Part), (⟨(w64 (a3)).tmod 32, w64 (200 + ((w64 (a3)).tmod 5)), (⟨#[97, 98, 99, 100]⟩ : ByteArray)⟩ : S_api_Part)]), .c 0 [I ((w64 (a3)).tmod 32), I (w64 (200 + ((w64 (a3)).tmod 5))), S (⟨#[97, 98, 99, 100]⟩ : ByteArray)] 27, .a (slA 27 e_api_Part A9 k9 y8.1)], _, rfl, hw1.eq (by kernel_rfl), rfl, mt_same, fin_held [.c 1 [.v (.slice A16 y15.1.Reports.length k16), .v (.slice A17 y15.1.Again.length k17)] 33, .a (slA 45 e_api_Report A16 k16 y15.1.Reports), .a (slA 3 (eI .i64) A17 k17 y15.1.Again), .a (slA 27 e_api_Part (some ⟨b11, 0, none⟩) 2 [(⟨(w64 (a3)).tmod 32, w64 (200 + ((w64 (a3)).tmod 5)), (⟨#[97, 98, 99, 100]⟩ : ByteArray)⟩ : S_api_Part), (⟨(w64 (a3)).tmod 32, w64 (200 + ((w64 (a3)).tmod 5)), (⟨#[97, 98, 99, 100]⟩ : ByteArray)⟩ : S_api_Part)]), .c 0 [I ((w64 (a3)).tmod 32), I (w64 (200 + ((w64 (a3)).tmod 5))), S (⟨#[97, 98, 99, 100]⟩ : ByteArray)] 27, .a (slA 27 e_api_Part A9 k9 y8.1)] [true, true, true, true, true, true, true, true, false, false, false, false, false] (by kernel_rfl) rfl [2, 2, 2, 2, 2, 2] [slA 27 e_api_Part A28 k28 y27, slA 27 e_api_Part (some ⟨b26, 0, none⟩) 1 [(⟨(w64 (a3)).tmod 32, w64 (200 + ((w64 (a3)).tmod 5)), (⟨#[97, 98, 99, 100]⟩ : ByteArray)⟩ : S_api_Part)]] (by kernel_rfl) ?_⟩
              refine rh_q [.c 1 [.v (.slice A16 y15.1.Reports.length k16), .v (.slice A17 y15.1.Again.length k17)] 33, .a (slA 45 e_api_Report A16 k16 y15.1.Reports), .a (slA 3 (eI .i64) A17 k17 y15.1.Again), .a (slA 27 e_api_Part (some ⟨b11, 0, none⟩) 2 [(⟨(w64 (a3)).tmod 32, w64 (200 + ((w64 (a3)).tmod 5)), (⟨#[97, 98, 99, 100]⟩ : ByteArray)⟩ : S_api_Part), (⟨(w64 (a3)).tmod 32, w64 (200 + ((w64 (a3)).tmod 5)), (⟨#[97, 98, 99, 100]⟩ : ByteArray)⟩ : S_api_Part)]), .c 0 [I ((w64 (a3)).tmod 32), I (w64 (200 + ((w64 (a3)).tmod 5))), S (⟨#[97, 98, 99, 100]⟩ : ByteArray)] 27, .a (slA 27 e_api_Part A9 k9 y8.1)] 0 [8, 9, 10, 11, 12] [] [0, 1, 14] [(0, S a1), (1, I a2), (14, S y30.1)] [true, true, true, true, true, true, true, true, true, true, true, true, true] [] rfl (by kernel_rfl) rfl [2, 2, 2, 2, 2, 2] [slA 27 e_api_Part A28 k28 y27, slA 27 e_api_Part (some ⟨b26, 0, none⟩) 1 [(⟨(w64 (a3)).tmod 32, w64 (200 + ((w64 (a3)).tmod 5)), (⟨#[97, 98, 99, 100]⟩ : ByteArray)⟩ : S_api_Part)]] (by kernel_rfl) (by kernel_rfl) trivial ?_
              refine rh_end (by kernel_rfl) (fin_then ?_)
              exact fin_join (b23, A25, k25, b26, A28, k28) trivial [0, 0, 0, 0, 0, 0, 0, 0] [] (by kernel_rfl) (by kernel_rfl) (by kernel_rfl)
            · refine op_bslice (E := e_api_Part) 23 27 1 #[(0, (.tmp 60))] 61 [(⟨(w64 (a3)).tmod 32, w64 (200 + ((w64 (a3)).tmod 5)), (⟨#[97, 98, 99, 100]⟩ : ByteArray)⟩ : S_api_Part)] (by kernel_rfl) (by kernel_rfl) (by kernel_rfl) rfl (by decide) (by kernel_rfl) (fun b26 => fin_held [.c 1 [.v (.slice A16 y15.1.Reports.length k16), .v (.slice A17 y15.1.Again.length k17)] 33, .a (slA 45 e_api_Report A16 k16 y15.1.Reports), .a (slA 3 (eI .i64) A17 k17 y15.1.Again), .a (slA 27 e_api_Part (some ⟨b11, 0, none⟩) 2 [(⟨(w64 (a3)).tmod 32, w64 (200 + ((w64 (a3)).tmod 5)), (⟨#[97, 98, 99, 100]⟩ : ByteArray)⟩ : S_api_Part), (⟨(w64 (a3)).tmod 32, w64 (200 + ((w64 (a3)).tmod 5)), (⟨#[97, 98, 99, 100]⟩ : ByteArray)⟩ : S_api_Part)]), .c 0 [I ((w64 (a3)).tmod 32), I (w64 (200 + ((w64 (a3)).tmod 5))), S (⟨#[97, 98, 99, 100]⟩ : ByteArray)] 27, .a (slA 27 e_api_Part A9 k9 y8.1)] [true, true, true, false, true, true, false, false, false, false, false, false, false] (by kernel_rfl) rfl [2, 2, 2, 2, 2, 2] [slA 27 e_api_Part (some ⟨b26, 0, none⟩) 1 [(⟨(w64 (a3)).tmod 32, w64 (200 + ((w64 (a3)).tmod 5)), (⟨#[97, 98, 99, 100]⟩ : ByteArray)⟩ : S_api_Part)], slA 27 e_api_Part (some ⟨b23, 0, none⟩) 1 [(⟨(w64 (a3)).tmod 32, w64 (200 + ((w64 (a3)).tmod 5)), (⟨#[97, 98, 99, 100]⟩ : ByteArray)⟩ : S_api_Part)]] (by kernel_rfl) ?_)
              refine rh_1 3 (by kernel_rfl) ?_
              refine op_append (E := e_api_Part) (lim := 4398046511104) 23 23 27 (.tmp 57) (.tmp 58) 59 (some ⟨b23, 0, none⟩) (.slice A9 y8.1.length k9) 1 [(⟨(w64 (a3)).tmod 32, w64 (200 + ((w64 (a3)).tmod 5)), (⟨#[97, 98, 99, 100]⟩ : ByteArray)⟩ : S_api_Part)] y8.1 ((Try.prog.info? 27).get rfl) (((Try.prog.info? 27).get rfl).zero.get rfl) 1 [.a (slA 27 e_api_Part (some ⟨b26, 0, none⟩) 1 [(⟨(w64 (a3)).tmod 32, w64 (200 + ((w64 (a3)).tmod 5)), (⟨#[97, 98, 99, 100]⟩ : ByteArray)⟩ : S_api_Part)]), .c 1 [.v (.slice A16 y15.1.Reports.length k16), .v (.slice A17 y15.1.Again.length k17)] 33, .a (slA 45 e_api_Report A16 k16 y15.1.Reports), .a (slA 3 (eI .i64) A17 k17 y15.1.Again), .a (slA 27 e_api_Part (some ⟨b11, 0, none⟩) 2 [(⟨(w64 (a3)).tmod 32, w64 (200 + ((w64 (a3)).tmod 5)), (⟨#[97, 98, 99, 100]⟩ : ByteArray)⟩ : S_api_Part), (⟨(w64 (a3)).tmod 32, w64 (200 + ((w64 (a3)).tmod 5)), (⟨#[97, 98, 99, 100]⟩ : ByteArray)⟩ : S_api_Part)]), .c 0 [I ((w64 (a3)).tmod 32), I (w64 (200 + ((w64 (a3)).tmod 5))), S (⟨#[97, 98, 99, 100]⟩ : ByteArray)] 27, .a (slA 27 e_api_Part A9 k9 y8.1)] (by kernel_rfl) (by kernel_rfl) (by kernel_rfl) (by kernel_rfl) (by kernel_rfl) (by kernel_rfl) (by kernel_rfl) (by kernel_rfl) (by kernel_rfl) (Nat.le_of_ble_eq_true (by kernel_rfl)) (by decide) hy24 (by kernel_rfl) (ap_sl (e := 27) (E := e_api_Part) (B := A9) (c := k9) (M := y8.1) (by kernel_rfl) (by kernel_rfl) (row_at (U := 27) (E := e_api_Part) (A := A9) (c := k9) (L := y8.1) 7 (by kernel_rfl))) (fun A25 k25 => fin_held [.c 1 [.v (.slice A16 y15.1.Reports.length k16), .v (.slice A17 y15.1.Again.length k17)] 33, .a (slA 45 e_api_Report A16 k16 y15.1.Reports), .a (slA 3 (eI .i64) A17 k17 y15.1.Again), .a (slA 27 e_api_Part (some ⟨b11, 0, none⟩) 2 [(⟨(w64 (a3)).tmod 32, w64 (200 + ((w64 (a3)).tmod 5)), (⟨#[97, 98, 99, 100]⟩ : ByteArray)⟩ : S_api_Part), (⟨(w64 (a3)).tmod 32, w64 (200 + ((w64 (a3)).tmod 5)), (⟨#[97, 98, 99, 100]⟩ : ByteArray)⟩ : S_api_Part)]), .c 0 [I ((w64 (a3)).tmod 32), I (w64 (200 + ((w64 (a3)).tmod 5))), S (⟨#[97, 98, 99, 100]⟩ : ByteArray)] 27, .a (slA 27 e_api_Part A9 k9 y8.1)] [true, true, true, true, true, true, false, false, false, false, false, false, false] (by kernel_rfl) rfl [2, 2, 2, 2, 2, 2] [slA 27 e_api_Part A25 k25 y24, slA 27 e_api_Part (some ⟨b26, 0, none⟩) 1 [(⟨(w64 (a3)).tmod 32, w64 (200 + ((w64 (a3)).tmod 5)), (⟨#[97, 98, 99, 100]⟩ : ByteArray)⟩ : S_api_Part)]] (by kernel_rfl) ?_)
              refine rh_1 6 (by kernel_rfl) ?_
              refine op_append (E := e_api_Part) (lim := 4398046511104) 23 23 27 (.tmp 59) (.tmp 61) 62 A25 (.slice (some ⟨b26, 0, none⟩) 1 1) k25 y24 [(⟨(w64 (a3)).tmod 32, w64 (200 + ((w64 (a3)).tmod 5)), (⟨#[97, 98, 99, 100]⟩ : ByteArray)⟩ : S_api_Part)] ((Try.prog.info? 27).get rfl) (((Try.prog.info? 27).get rfl).zero.get rfl) 0 [.a (slA 27 e_api_Part (some ⟨b26, 0, none⟩) 1 [(⟨(w64 (a3)).tmod 32, w64 (200 + ((w64 (a3)).tmod 5)), (⟨#[97, 98, 99, 100]⟩ : ByteArray)⟩ : S_api_Part)]), .c 1 [.v (.slice A16 y15.1.Reports.length k16), .v (.slice A17 y15.1.Again.length k17)] 33, .a (slA 45 e_api_Report A16 k16 y15.1.Reports), .a (slA 3 (eI .i64) A17 k17 y15.1.Again), .a (slA 27 e_api_Part (some ⟨b11, 0, none⟩) 2 [(⟨(w64 (a3)).tmod 32, w64 (200 + ((w64 (a3)).tmod 5)), (⟨#[97, 98, 99, 100]⟩ : ByteArray)⟩ : S_api_Part), (⟨(w64 (a3)).tmod 32, w64 (200 + ((w64 (a3)).tmod 5)), (⟨#[97, 98, 99, 100]⟩ : ByteArray)⟩ : S_api_Part)]), .c 0 [I ((w64 (a3)).tmod 32), I (w64 (200 + ((w64 (a3)).tmod 5))), S (⟨#[97, 98, 99, 100]⟩ : ByteArray)] 27, .a (slA 27 e_api_Part A9 k9 y8.1)] (by kernel_rfl) (by kernel_rfl) (by kernel_rfl) (by kernel_rfl) (by kernel_rfl) (by kernel_rfl) (by kernel_rfl) (by kernel_rfl) (by kernel_rfl) (Nat.le_of_ble_eq_true (by kernel_rfl)) (by decide) hy27 (by kernel_rfl) (ap_sl (e := 27) (E := e_api_Part) (B := (some ⟨b26, 0, none⟩)) (c := 1) (M := [(⟨(w64 (a3)).tmod 32, w64 (200 + ((w64 (a3)).tmod 5)), (⟨#[97, 98, 99, 100]⟩ : ByteArray)⟩ : S_api_Part)]) (by kernel_rfl) (by kernel_rfl) (row_at (U := 27) (E := e_api_Part) (A := (some ⟨b26, 0, none⟩)) (c := 1) (L := [(⟨(w64 (a3)).tmod 32, w64 (200 + ((w64 (a3)).tmod 5)), (⟨#[97, 98, 99, 100]⟩ : ByteArray)⟩ : S_api_Part)]) 1 (by kernel_rfl))) (fun A28 k28 => fin_held [.c 1 [.v (.slice A16 y15.1.Reports.length k16), .v (.slice A17 y15.1.Again.length k17)] 33, .a (slA 45 e_api_Report A16 k16 y15.1.Reports), .a (slA 3 (eI .i64) A17 k17 y15.1.Again), .a (slA 27 e_api_Part (some ⟨b11, 0, none⟩) 2 [(⟨(w64 (a3)).tmod 32, w64 (200 + ((w64 (a3)).tmod 5)), (⟨#[97, 98, 99, 100]⟩ : ByteArray)⟩ : S_api_Part), (⟨(w64 (a3)).tmod 32, w64 (200 + ((w64 (a3)).tmod 5)), (⟨#[97, 98, 99, 100]⟩ : ByteArray)⟩ : S_api_Part)]), .c 0 [I ((w64 (a3)).tmod 32), I (w64 (200 + ((w64 (a3)).tmod 5))), S (⟨#[97, 98, 99, 100]⟩ : ByteArray)] 27, .a (slA 27 e_api_Part A9 k9 y8.1)] [true, true, true, true, true, true, true, false, false, false, false, false, false] (by kernel_rfl) rfl [2, 2, 2, 2, 2, 2] [slA 27 e_api_Part A28 k28 y27, slA 27 e_api_Part (some ⟨b26, 0, none⟩) 1 [(⟨(w64 (a3)).tmod 32, w64 (200 + ((w64 (a3)).tmod 5)), (⟨#[97, 98, 99, 100]⟩ : ByteArray)⟩ : S_api_Part)]] (by kernel_rfl) ?_)
              refine rh_1 7 (by kernel_rfl) ?_
              refine op_call (f := 6) (xs := #[(.tmp 62)]) (ats := #[23]) (d := (some 63)) (args := #[.slice A28 y27.length k28]) (by kernel_rfl) (by kernel_rfl) (by kernel_rfl) (by kernel_rfl) fun w hw => (ref08_Join_ok hy30 (row_at (U := 27) (E := e_api_Part) (A := A28) (c := k28) (L := y27) 0 (by kernel_rfl)) hw).mono ?_
              rintro _ w1 ⟨rfl, hw1⟩
              refine ⟨_, [b10, b18], [.a (slA 27 e_api_Part A28 k28 y27), .a (slA 27 e_api_Part (some ⟨b26, 0, none⟩) 1 [(⟨(w64 (a3)).tmod 32, w64 (200 + ((w64 (a3)).tmod 5)), (⟨#[97, 98, 99, 100]⟩ : ByteArray)⟩ : S_api_Part)]), .c 1 [.v (.slice A16 y15.1.Reports.length k16), .v (.slice A17 y15.1.Again.length k17)] 33, .a (slA 45 e_api_Report A16 k16 y15.1.Reports), .a (slA 3 (eI .i64) A17 k17 y15.1.Again), .a (slA 27 e_api_Part (some ⟨b11, 0, none⟩) 2 [(⟨(w64 (a3)).tmod 32, w64 (200 + ((w64 (a3)).tmod 5)), (⟨#[97, 98, 99, 100]⟩ : ByteArray)⟩ : S_api_Part), (⟨(w64 (a3)).tmod 32, w64 (200 + ((w64 (a3)).tmod 5)), (⟨#[97, 98, 99, 100]⟩ : ByteArray)⟩ : S_api_Part)]), .c 0 [I ((w64 (a3)).tmod 32), I (w64 (200 + ((w64 (a3)).tmod 5))), S (⟨#[97, 98, 99, 100]⟩ : ByteArray)] 27, .a (slA 27 e_api_Part A9 k9 y8.1)], _, rfl, hw1.eq (by kernel_rfl), rfl, mt_same, fin_held [.c 1 [.v (.slice A16 y15.1.Reports.length k16), .v (.slice A17 y15.1.Again.length k17)] 33, .a (slA 45 e_api_Report A16 k16 y15.1.Reports), .a (slA 3 (eI .i64) A17 k17 y15.1.Again), .a (slA 27 e_api_Part (some ⟨b11, 0, none⟩) 2 [(⟨(w64 (a3)).tmod 32, w64 (200 + ((w64 (a3)).tmod 5)), (⟨#[97, 98, 99, 100]⟩ : ByteArray)⟩ : S_api_Part), (⟨(w64 (a3)).tmod 32, w64 (200 + ((w64 (a3)).tmod 5)), (⟨#[97, 98, 99, 100]⟩ : ByteArray)⟩ : S_api_Part)]), .c 0 [I ((w64 (a3)).tmod 32), I (w64 (200 + ((w64 (a3)).tmod 5))), S (⟨#[97, 98, 99, 100]⟩ : ByteArray)] 27, .a (slA 27 e_api_Part A9 k9 y8.1)] [true, true, true, true, true, true, true, true, false, false, false, false, false] (by kernel_rfl) rfl [2, 2, 2, 2, 2, 2] [slA 27 e_api_Part A28 k28 y27, slA 27 e_api_Part (some ⟨b26, 0, none⟩) 1 [(⟨(w64 (a3)).tmod 32, w64 (200 + ((w64 (a3)).tmod 5)), (⟨#[97, 98, 99, 100]⟩ : ByteArray)⟩ : S_api_Part)]] (by kernel_rfl) ?_⟩
              refine rh_q [.c 1 [.v (.slice A16 y15.1.Reports.length k16), .v (.slice A17 y15.1.Again.length k17)] 33, .a (slA 45 e_api_Report A16 k16 y15.1.Reports), .a (slA 3 (eI .i64) A17 k17 y15.1.Again), .a (slA 27 e_api_Part (some ⟨b11, 0, none⟩) 2 [(⟨(w64 (a3)).tmod 32, w64 (200 + ((w64 (a3)).tmod 5)), (⟨#[97, 98, 99, 100]⟩ : ByteArray)⟩ : S_api_Part), (⟨(w64 (a3)).tmod 32, w64 (200 + ((w64 (a3)).tmod 5)), (⟨#[97, 98, 99, 100]⟩ : ByteArray)⟩ : S_api_Part)]), .c 0 [I ((w64 (a3)).tmod 32), I (w64 (200 + ((w64 (a3)).tmod 5))), S (⟨#[97, 98, 99, 100]⟩ : ByteArray)] 27, .a (slA 27 e_api_Part A9 k9 y8.1)] 0 [8, 9, 10, 11, 12] [] [0, 1, 14] [(0, S a1), (1, I a2), (14, S y30.1)] [true, true, true, true, true, true, true, true, true, true, true, true, true] [] rfl (by kernel_rfl) rfl [2, 2, 2, 2, 2, 2] [slA 27 e_api_Part A28 k28 y27, slA 27 e_api_Part (some ⟨b26, 0, none⟩) 1 [(⟨(w64 (a3)).tmod 32, w64 (200 + ((w64 (a3)).tmod 5)), (⟨#[97, 98, 99, 100]⟩ : ByteArray)⟩ : S_api_Part)]] (by kernel_rfl) (by kernel_rfl) trivial ?_
              refine rh_end (by kernel_rfl) (fin_then ?_)
              exact fin_join (b23, A25, k25, b26, A28, k28) trivial [0, 0, 0, 0, 0, 0, 0, 0] [] (by kernel_rfl) (by kernel_rfl) (by kernel_rfl)
          · refine op_bslice (E := e_api_Part) 23 27 1 #[(0, (.tmp 60))] 61 [(⟨(w64 (a3)).tmod 32, w64 (200 + ((w64 (a3)).tmod 5)), (⟨#[97, 98, 99, 100]⟩ : ByteArray)⟩ : S_api_Part)] (by kernel_rfl) (by kernel_rfl) (by kernel_rfl) rfl (by decide) (by kernel_rfl) (fun b26 => fin_held [.c 1 [.v (.slice A16 y15.1.Reports.length k16), .v (.slice A17 y15.1.Again.length k17)] 33, .a (slA 45 e_api_Report A16 k16 y15.1.Reports), .a (slA 3 (eI .i64) A17 k17 y15.1.Again), .a (slA 27 e_api_Part (some ⟨b11, 0, none⟩) 2 [(⟨(w64 (a3)).tmod 32, w64 (200 + ((w64 (a3)).tmod 5)), (⟨#[97, 98, 99, 100]⟩ : ByteArray)⟩ : S_api_Part), (⟨(w64 (a3)).tmod 32, w64 (200 + ((w64 (a3)).tmod 5)), (⟨#[97, 98, 99, 100]⟩ : ByteArray)⟩ : S_api_Part)]), .c 0 [I ((w64 (a3)).tmod 32), I (w64 (200 + ((w64 (a3)).tmod 5))), S (⟨#[97, 98, 99, 100]⟩ : ByteArray)] 27, .a (slA 27 e_api_Part A9 k9 y8.1)] [true, false, true, false, true, true, false, false, false, false, false, false, false] (by kernel_rfl) rfl [1, 1, 1, 1, 1, 1] [slA 27 e_api_Part (some ⟨b26, 0, none⟩) 1 [(⟨(w64 (a3)).tmod 32, w64 (200 + ((w64 (a3)).tmod 5)), (⟨#[97, 98, 99, 100]⟩ : ByteArray)⟩ : S_api_Part)]] (by kernel_rfl) ?_)
            refine rh_1 1 (by kernel_rfl) ?_
            refine op_bslice (E := e_api_Part) 23 27 1 #[(0, (.tmp 56))] 57 [(⟨(w64 (a3)).tmod 32, w64 (200 + ((w64 (a3)).tmod 5)), (⟨#[97, 98, 99, 100]⟩ : ByteArray)⟩ : S_api_Part)] (by kernel_rfl) (by kernel_rfl) (by kernel_rfl) rfl (by decide) (by kernel_rfl) (fun b23 => fin_held [.c 1 [.v (.slice A16 y15.1.Reports.length k16), .v (.slice A17 y15.1.Again.length k17)] 33, .a (slA 45 e_api_Report A16 k16 y15.1.Reports), .a (slA 3 (eI .i64) A17 k17 y15.1.Again), .a (slA 27 e_api_Part (some ⟨b11, 0, none⟩) 2 [(⟨(w64 (a3)).tmod 32, w64 (200 + ((w64 (a3)).tmod 5)), (⟨#[97, 98, 99, 100]⟩ : ByteArray)⟩ : S_api_Part), (⟨(w64 (a3)).tmod 32, w64 (200 + ((w64 (a3)).tmod 5)), (⟨#[97, 98, 99, 100]⟩ : ByteArray)⟩ : S_api_Part)]), .c 0 [I ((w64 (a3)).tmod 32), I (w64 (200 + ((w64 (a3)).tmod 5))), S (⟨#[97, 98, 99, 100]⟩ : ByteArray)] 27, .a (slA 27 e_api_Part A9 k9 y8.1)] [true, true, true, false, true, true, false, false, false, false, false, false, false] (by kernel_rfl) rfl [2, 2, 2, 2, 2, 2] [slA 27 e_api_Part (some ⟨b23, 0, none⟩) 1 [(⟨(w64 (a3)).tmod 32, w64 (200 + ((w64 (a3)).tmod 5)), (⟨#[97, 98, 99, 100]⟩ : ByteArray)⟩ : S_api_Part)], slA 27 e_api_Part (some ⟨b26, 0, none⟩) 1 [(⟨(w64 (a3)).tmod 32, w64 (200 + ((w64 (a3)).tmod 5)), (⟨#[97, 98, 99, 100]⟩ : ByteArray)⟩ : S_api_Part)]] (by kernel_rfl) ?_)
            refine rh_1 3 (by kernel_rfl) ?_
            refine op_append (E := e_api_Part) (lim := 4398046511104) 23 23 27 (.tmp 57) (.tmp 58) 59 (some ⟨b23, 0, none⟩) (.slice A9 y8.1.length k9) 1 [(⟨(w64 (a3)).tmod 32, w64 (200 + ((w64 (a3)).tmod 5)), (⟨#[97, 98, 99, 100]⟩ : ByteArray)⟩ : S_api_Part)] y8.1 ((Try.prog.info? 27).get rfl) (((Try.prog.info? 27).get rfl).zero.get rfl) 0 [.a (slA 27 e_api_Part (some ⟨b26, 0, none⟩) 1 [(⟨(w64 (a3)).tmod 32, w64 (200 + ((w64 (a3)).tmod 5)), (⟨#[97, 98, 99, 100]⟩ : ByteArray)⟩ : S_api_Part)]), .c 1 [.v (.slice A16 y15.1.Reports.length k16), .v (.slice A17 y15.1.Again.length k17)] 33, .a (slA 45 e_api_Report A16 k16 y15.1.Reports), .a (slA 3 (eI .i64) A17 k17 y15.1.Again), .a (slA 27 e_api_Part (some ⟨b11, 0, none⟩) 2 [(⟨(w64 (a3)).tmod 32, w64 (200 + ((w64 (a3)).tmod 5)), (⟨#[97, 98, 99, 100]⟩ : ByteArray)⟩ : S_api_Part), (⟨(w64 (a3)).tmod 32, w64 (200 + ((w64 (a3)).tmod 5)), (⟨#[97, 98, 99, 100]⟩ : ByteArray)⟩ : S_api_Part)]), .c 0 [I ((w64 (a3)).tmod 32), I (w64 (200 + ((w64 (a3)).tmod 5))), S (⟨#[97, 98, 99, 100]⟩ : ByteArray)] 27, .a (slA 27 e_api_Part A9 k9 y8.1)] (by kernel_rfl) (by kernel_rfl) (by kernel_rfl) (by kernel_rfl) (by kernel_rfl) (by kernel_rfl) (by kernel_rfl) (by kernel_rfl) (by kernel_rfl) (Nat.le_of_ble_eq_true (by kernel_rfl)) (by decide) hy24 (by kernel_rfl) (ap_sl (e := 27) (E := e_api_Part) (B := A9) (c := k9) (M := y8.1) (by kernel_rfl) (by kernel_rfl) (row_at (U := 27) (E := e_api_Part) (A := A9) (c := k9) (L := y8.1) 7 (by kernel_rfl))) (fun A25 k25 => fin_held [.c 1 [.v (.slice A16 y15.1.Reports.length k16), .v (.slice A17 y15.1.Again.length k17)] 33, .a (slA 45 e_api_Report A16 k16 y15.1.Reports), .a (slA 3 (eI .i64) A17 k17 y15.1.Again), .a (slA 27 e_api_Part (some ⟨b11, 0, none⟩) 2 [(⟨(w64 (a3)).tmod 32, w64 (200 + ((w64 (a3)).tmod 5)), (⟨#[97, 98, 99, 100]⟩ : ByteArray)⟩ : S_api_Part), (⟨(w64 (a3)).tmod 32, w64 (200 + ((w64 (a3)).tmod 5)), (⟨#[97, 98, 99, 100]⟩ : ByteArray)⟩ : S_api_Part)]), .c 0 [I ((w64 (a3)).tmod 32), I (w64 (200 + ((w64 (a3)).tmod 5))), S (⟨#[97, 98, 99, 100]⟩ : ByteArray)] 27, .a (slA 27 e_api_Part A9 k9 y8.1)] [true, true, true, true, true, true, false, false, false, false, false, false, false] (by kernel_rfl) rfl [2, 2, 2, 2, 2, 2] [slA 27 e_api_Part A25 k25 y24, slA 27 e_api_Part (some ⟨b26, 0, none⟩) 1 [(⟨(w64 (a3)).tmod 32, w64 (200 + ((w64 (a3)).tmod 5)), (⟨#[97, 98, 99, 100]⟩ : ByteArray)⟩ : S_api_Part)]] (by kernel_rfl) ?_)
            refine rh_1 6 (by kernel_rfl) ?_
            refine op_append (E := e_api_Part) (lim := 4398046511104) 23 23 27 (.tmp 59) (.tmp 61) 62 A25 (.slice (some ⟨b26, 0, none⟩) 1 1) k25 y24 [(⟨(w64 (a3)).tmod 32, w64 (200 + ((w64 (a3)).tmod 5)), (⟨#[97, 98, 99, 100]⟩ : ByteArray)⟩ : S_api_Part)] ((Try.prog.info? 27).get rfl) (((Try.prog.info? 27).get rfl).zero.get rfl) 0 [.a (slA 27 e_api_Part (some ⟨b26, 0, none⟩) 1 [(⟨(w64 (a3)).tmod 32, w64 (200 + ((w64 (a3)).tmod 5)), (⟨#[97, 98, 99, 100]⟩ : ByteArray)⟩ : S_api_Part)]), .c 1 [.v (.slice A16 y15.1.Reports.length k16), .v (.slice A17 y15.1.Again.length k17)] 33, .a (slA 45 e_api_Report A16 k16 y15.1.Reports), .a (slA 3 (eI .i64) A17 k17 y15.1.Again), .a (slA 27 e_api_Part (some ⟨b11, 0, none⟩) 2 [(⟨(w64 (a3)).tmod 32, w64 (200 + ((w64 (a3)).tmod 5)), (⟨#[97, 98, 99, 100]⟩ : ByteArray)⟩ : S_api_Part), (⟨(w64 (a3)).tmod 32, w64 (200 + ((w64 (a3)).tmod 5)), (⟨#[97, 98, 99, 100]⟩ : ByteArray)⟩ : S_api_Part)]), .c 0 [I ((w64 (a3)).tmod 32), I (w64 (200 + ((w64 (a3)).tmod 5))), S (⟨#[97, 98, 99, 100]⟩ : ByteArray)] 27, .a (slA 27 e_api_Part A9 k9 y8.1)] (by kernel_rfl) (by kernel_rfl) (by kernel_rfl) (by kernel_rfl) (by kernel_rfl) (by kernel_rfl) (by kernel_rfl) (by kernel_rfl) (by kernel_rfl) (Nat.le_of_ble_eq_true (by kernel_rfl)) (by decide) hy27 (by kernel_rfl) (ap_sl (e := 27) (E := e_api_Part) (B := (some ⟨b26, 0, none⟩)) (c := 1) (M := [(⟨(w64 (a3)).tmod 32, w64 (200 + ((w64 (a3)).tmod 5)), (⟨#[97, 98, 99, 100]⟩ : ByteArray)⟩ : S_api_Part)]) (by kernel_rfl) (by kernel_rfl) (row_at (U := 27) (E := e_api_Part) (A := (some ⟨b26, 0, none⟩)) (c := 1) (L := [(⟨(w64 (a3)).tmod 32, w64 (200 + ((w64 (a3)).tmod 5)), (⟨#[97, 98, 99, 100]⟩ : ByteArray)⟩ : S_api_Part)]) 1 (by kernel_rfl))) (fun A28 k28 => fin_held [.c 1 [.v (.slice A16 y15.1.Reports.length k16), .v (.slice A17 y15.1.Again.length k17)] 33, .a (slA 45 e_api_Report A16 k16 y15.1.Reports), .a (slA 3 (eI .i64) A17 k17 y15.1.Again), .a (slA 27 e_api_Part (some ⟨b11, 0, none⟩) 2 [(⟨(w64 (a3)).tmod 32, w64 (200 + ((w64 (a3)).tmod 5)), (⟨#[97, 98, 99, 100]⟩ : ByteArray)⟩ : S_api_Part), (⟨(w64 (a3)).tmod 32, w64 (200 + ((w64 (a3)).tmod 5)), (⟨#[97, 98, 99, 100]⟩ : ByteArray)⟩ : S_api_Part)]), .c 0 [I ((w64 (a3)).tmod 32), I (w64 (200 + ((w64 (a3)).tmod 5))), S (⟨#[97, 98, 99, 100]⟩ : ByteArray)] 27, .a (slA 27 e_api_Part A9 k9 y8.1)] [true, true, true, true, true, true, true, false, false, false, false, false, false] (by kernel_rfl) rfl [2, 2, 2, 2, 2, 2] [slA 27 e_api_Part A28 k28 y27, slA 27 e_api_Part (some ⟨b26, 0, none⟩) 1 [(⟨(w64 (a3)).tmod 32, w64 (200 + ((w64 (a3)).tmod 5)), (⟨#[97, 98, 99, 100]⟩ : ByteArray)⟩ : S_api_Part)]] (by kernel_rfl) ?_)
            refine rh_1 7 (by kernel_rfl) ?_
            refine op_call (f := 6) (xs := #[(.tmp 62)]) (ats := #[23]) (d := (some 63)) (args := #[.slice A28 y27.length k28]) (by kernel_rfl) (by kernel_rfl) (by kernel_rfl) (by kernel_rfl) fun w hw => (ref08_Join_ok hy30 (row_at (U := 27) (E := e_api_Part) (A := A28) (c := k28) (L := y27) 0 (by kernel_rfl)) hw).mono ?_
            rintro _ w1 ⟨rfl, hw1⟩
            refine ⟨_, [b10, b18], [.a (slA 27 e_api_Part A28 k28 y27), .a (slA 27 e_api_Part (some ⟨b26, 0, none⟩) 1 [(⟨(w64 (a3)).tmod 32, w64 (200 + ((w64 (a3)).tmod 5)), (⟨#[97, 98, 99, 100]⟩ : ByteArray)⟩ : S_api_Part)]), .c 1 [.v (.slice A16 y15.1.Reports.length k16), .v (.slice A17 y15.1.Again.length k17)] 33, .a (slA 45 e_api_Report A16 k16 y15.1.Reports), .a (slA 3 (eI .i64) A17 k17 y15.1.Again), .a (slA 27 e_api_Part (some ⟨b11, 0, none⟩) 2 [(⟨(w64 (a3)).tmod 32, w64 (200 + ((w64 (a3)).tmod 5)), (⟨#[97, 98, 99, 100]⟩ : ByteArray)⟩ : S_api_Part), (⟨(w64 (a3)).tmod 32, w64 (200 + ((w64 (a3)).tmod 5)), (⟨#[97, 98, 99, 100]⟩ : ByteArray)⟩ : S_api_Part)]), .c 0 [I ((w64 (a3)).tmod 32), I (w64 (200 + ((w64 (a3)).tmod 5))), S (⟨#[97, 98, 99, 100]⟩ : ByteArray)] 27, .a (slA 27 e_api_Part A9 k9 y8.1)], _, rfl, hw1.eq (by kernel_rfl), rfl, mt_same, fin_held [.c 1 [.v (.slice A16 y15.1.Reports.length k16), .v (.slice A17 y15.1.Again.length k17)] 33, .a (slA 45 e_api_Report A16 k16 y15.1.Reports), .a (slA 3 (eI .i64) A17 k17 y15.1.Again), .a (slA 27 e_api_Part (some ⟨b11, 0, none⟩) 2 [(⟨(w64 (a3)).tmod 32, w64 (200 + ((w64 (a3)).tmod 5)), (⟨#[97, 98, 99, 100]⟩ : ByteArray)⟩ : S_api_Part), (⟨(w64 (a3)).tmod 32, w64 (200 + ((w64 (a3)).tmod 5)), (⟨#[97, 98, 99, 100]⟩ : ByteArray)⟩ : S_api_Part)]), .c 0 [I ((w64 (a3)).tmod 32), I (w64 (200 + ((w64 (a3)).tmod 5))), S (⟨#[97, 98, 99, 100]⟩ : ByteArray)] 27, .a (slA 27 e_api_Part A9 k9 y8.1)] [true, true, true, true, true, true, true, true, false, false, false, false, false] (by kernel_rfl) rfl [2, 2, 2, 2, 2, 2] [slA 27 e_api_Part A28 k28 y27, slA 27 e_api_Part (some ⟨b26, 0, none⟩) 1 [(⟨(w64 (a3)).tmod 32, w64 (200 + ((w64 (a3)).tmod 5)), (⟨#[97, 98, 99, 100]⟩ : ByteArray)⟩ : S_api_Part)]] (by kernel_rfl) ?_⟩
            refine rh_q [.c 1 [.v (.slice A16 y15.1.Reports.length k16), .v (.slice A17 y15.1.Again.length k17)] 33, .a (slA 45 e_api_Report A16 k16 y15.1.Reports), .a (slA 3 (eI .i64) A17 k17 y15.1.Again), .a (slA 27 e_api_Part (some ⟨b11, 0, none⟩) 2 [(⟨(w64 (a3)).tmod 32, w64 (200 + ((w64 (a3)).tmod 5)), (⟨#[97, 98, 99, 100]⟩ : ByteArray)⟩ : S_api_Part), (⟨(w64 (a3)).tmod 32, w64 (200 + ((w64 (a3)).tmod 5)), (⟨#[97, 98, 99, 100]⟩ : ByteArray)⟩ : S_api_Part)]), .c 0 [I ((w64 (a3)).tmod 32), I (w64 (200 + ((w64 (a3)).tmod 5))), S (⟨#[97, 98, 99, 100]⟩ : ByteArray)] 27, .a (slA 27 e_api_Part A9 k9 y8.1)] 0 [8, 9, 10, 11, 12] [] [0, 1, 14] [(0, S a1), (1, I a2), (14, S y30.1)] [true, true, true, true, true, true, true, true, true, true, true, true, true] [] rfl (by kernel_rfl) rfl [2, 2, 2, 2, 2, 2] [slA 27 e_api_Part A28 k28 y27, slA 27 e_api_Part (some ⟨b26, 0, none⟩) 1 [(⟨(w64 (a3)).tmod 32, w64 (200 + ((w64 (a3)).tmod 5)), (⟨#[97, 98, 99, 100]⟩ : ByteArray)⟩ : S_api_Part)]] (by kernel_rfl) (by kernel_rfl) trivial ?_
            refine rh_end (by kernel_rfl) (fin_then ?_)
            exact fin_join (b23, A25, k25, b26, A28, k28) trivial [0, 0, 0, 0, 0, 0, 0, 0] [] (by kernel_rfl) (by kernel_rfl) (by kernel_rfl)
        · rintro ⟨b23, A25, k25, b26, A28, k28⟩ -
          refine fin_id (fin_next ?_)
          refine rn_seq ?_
          refine rn_text ?_
          refine ro_q 2 [] [1, 14, 67, 68] [(1, I a2), (14, S y30.1), (67, S a1), (68, I a2)] [] (by kernel_rfl) trivial ?_
          refine bind_elim hres fun y32 hy32 hres => ?_
          refine ro_op (by kernel_rfl) (op_call (f := 7) (xs := #[(.tmp 67), (.tmp 68)]) (ats := #[9, 2]) (d := (some 69)) (args := #[.string a1, .int .i64 a2]) (by kernel_rfl) (by kernel_rfl) (by kernel_rfl) (by kernel_rfl) fun w hw => (feed_Read_ok hy32 hw).mono ?_)
          rintro _ w1 ⟨A33, k33, A34, k34, rfl, hw1⟩
          refine ⟨_, [b10, b18], [.a (slA 45 e_api_Report A33 k33 y32.1.Reports), .a (slA 3 (eI .i64) A34 k34 y32.1.Again), .a (slA 27 e_api_Part A28 k28 y27), .a (slA 27 e_api_Part (some ⟨b26, 0, none⟩) 1 [(⟨(w64 (a3)).tmod 32, w64 (200 + ((w64 (a3)).tmod 5)), (⟨#[97, 98, 99, 100]⟩ : ByteArray)⟩ : S_api_Part)]), .c 1 [.v (.slice A16 y15.1.Reports.length k16), .v (.slice A17 y15.1.Again.length k17)] 33, .a (slA 45 e_api_Report A16 k16 y15.1.Reports), .a (slA 3 (eI .i64) A17 k17 y15.1.Again), .a (slA 27 e_api_Part (some ⟨b11, 0, none⟩) 2 [(⟨(w64 (a3)).tmod 32, w64 (200 + ((w64 (a3)).tmod 5)), (⟨#[97, 98, 99, 100]⟩ : ByteArray)⟩ : S_api_Part), (⟨(w64 (a3)).tmod 32, w64 (200 + ((w64 (a3)).tmod 5)), (⟨#[97, 98, 99, 100]⟩ : ByteArray)⟩ : S_api_Part)]), .c 0 [I ((w64 (a3)).tmod 32), I (w64 (200 + ((w64 (a3)).tmod 5))), S (⟨#[97, 98, 99, 100]⟩ : ByteArray)] 27, .a (slA 27 e_api_Part A9 k9 y8.1)], _, rfl, hw1.eq (by kernel_rfl), rfl, mt_same, ro_fin ?_⟩
          refine ro_q 3 [] [1, 14, 70, 71] [(1, I a2), (14, S y30.1), (70, .v (.agg #[.slice A33 y32.1.Reports.length k33, .slice A34 y32.1.Again.length k34])), (71, I y32.2)] [] (by kernel_rfl) trivial ?_
          refine ro_op (by kernel_rfl) (op_alloc 33 16 (.agg #[.slice none 0 0, .slice none 0 0]) [.v (.slice none 0 0), .v (.slice none 0 0)] (fun b35 => [b10, b18, b35]) (fun b35 => [.c 2 [.v (.slice none 0 0), .v (.slice none 0 0)] 33, .a (slA 45 e_api_Report A33 k33 y32.1.Reports), .a (slA 3 (eI .i64) A34 k34 y32.1.Again), .a (slA 27 e_api_Part A28 k28 y27), .a (slA 27 e_api_Part (some ⟨b26, 0, none⟩) 1 [(⟨(w64 (a3)).tmod 32, w64 (200 + ((w64 (a3)).tmod 5)), (⟨#[97, 98, 99, 100]⟩ : ByteArray)⟩ : S_api_Part)]), .c 1 [.v (.slice A16 y15.1.Reports.length k16), .v (.slice A17 y15.1.Again.length k17)] 33, .a (slA 45 e_api_Report A16 k16 y15.1.Reports), .a (slA 3 (eI .i64) A17 k17 y15.1.Again), .a (slA 27 e_api_Part (some ⟨b11, 0, none⟩) 2 [(⟨(w64 (a3)).tmod 32, w64 (200 + ((w64 (a3)).tmod 5)), (⟨#[97, 98, 99, 100]⟩ : ByteArray)⟩ : S_api_Part), (⟨(w64 (a3)).tmod 32, w64 (200 + ((w64 (a3)).tmod 5)), (⟨#[97, 98, 99, 100]⟩ : ByteArray)⟩ : S_api_Part)]), .c 0 [I ((w64 (a3)).tmod 32), I (w64 (200 + ((w64 (a3)).tmod 5))), S (⟨#[97, 98, 99, 100]⟩ : ByteArray)] 27, .a (slA 27 e_api_Part A9 k9 y8.1)]) (by kernel_rfl) (by kernel_rfl) (by kernel_rfl) (by kernel_rfl) 2 (fun _ => by kernel_rfl) (fun _ => mt_bs (by kernel_rfl)) (fun _ => by kernel_rfl) (fun b35 => ro_fin ?_))
          refine ro_op (by kernel_rfl) (op_store 33 (.tmp 16) (.tmp 70) 2 0 (.v (.agg #[.slice A33 y32.1.Reports.length k33, .slice A34 y32.1.Again.length k34])) [.c 2 [.v (.slice A33 y32.1.Reports.length k33), .v (.slice A34 y32.1.Again.length k34)] 33, .a (slA 45 e_api_Report A33 k33 y32.1.Reports), .a (slA 3 (eI .i64) A34 k34 y32.1.Again), .a (slA 27 e_api_Part A28 k28 y27), .a (slA 27 e_api_Part (some ⟨b26, 0, none⟩) 1 [(⟨(w64 (a3)).tmod 32, w64 (200 + ((w64 (a3)).tmod 5)), (⟨#[97, 98, 99, 100]⟩ : ByteArray)⟩ : S_api_Part)]), .c 1 [.v (.slice A16 y15.1.Reports.length k16), .v (.slice A17 y15.1.Again.length k17)] 33, .a (slA 45 e_api_Report A16 k16 y15.1.Reports), .a (slA 3 (eI .i64) A17 k17 y15.1.Again), .a (slA 27 e_api_Part (some ⟨b11, 0, none⟩) 2 [(⟨(w64 (a3)).tmod 32, w64 (200 + ((w64 (a3)).tmod 5)), (⟨#[97, 98, 99, 100]⟩ : ByteArray)⟩ : S_api_Part), (⟨(w64 (a3)).tmod 32, w64 (200 + ((w64 (a3)).tmod 5)), (⟨#[97, 98, 99, 100]⟩ : ByteArray)⟩ : S_api_Part)]), .c 0 [I ((w64 (a3)).tmod 32), I (w64 (200 + ((w64 (a3)).tmod 5))), S (⟨#[97, 98, 99, 100]⟩ : ByteArray)] 27, .a (slA 27 e_api_Part A9 k9 y8.1)] (by kernel_rfl) (by kernel_rfl) (by kernel_rfl) (by kernel_rfl) (ro_fin ?_))
          refine ro_q 1 [] [1, 14, 16, 17] [(1, I a2), (14, S y30.1), (16, .p 2 0), (17, I y32.2)] [] (by kernel_rfl) trivial ?_
          refine ro_end (by kernel_rfl) (fin_next ?_)
          refine rn_seq ?_
          refine rn_text ?_
          refine ro_q 2 [] [16, 17, 73, 74] [(16, .p 2 0), (17, I y32.2), (73, S y30.1), (74, I a2)] [] (by kernel_rfl) trivial ?_
          refine bind_elim hres fun y37 hy37 hres => ?_
          refine ro_op (by kernel_rfl) (op_call (f := 7) (xs := #[(.tmp 73), (.tmp 74)]) (ats := #[9, 2]) (d := (some 75)) (args := #[.string y30.1, .int .i64 a2]) (by kernel_rfl) (by kernel_rfl) (by kernel_rfl) (by kernel_rfl) fun w hw => (feed_Read_ok hy37 hw).mono ?_)
          rintro _ w1 ⟨A38, k38, A39, k39, rfl, hw1⟩
          refine ⟨_, [b10, b18, b35], [.a (slA 45 e_api_Report A38 k38 y37.1.Reports), .a (slA 3 (eI .i64) A39 k39 y37.1.Again), .c 2 [.v (.slice A33 y32.1.Reports.length k33), .v (.slice A34 y32.1.Again.length k34)] 33, .a (slA 45 e_api_Report A33 k33 y32.1.Reports), .a (slA 3 (eI .i64) A34 k34 y32.1.Again), .a (slA 27 e_api_Part A28 k28 y27), .a (slA 27 e_api_Part (some ⟨b26, 0, none⟩) 1 [(⟨(w64 (a3)).tmod 32, w64 (200 + ((w64 (a3)).tmod 5)), (⟨#[97, 98, 99, 100]⟩ : ByteArray)⟩ : S_api_Part)]), .c 1 [.v (.slice A16 y15.1.Reports.length k16), .v (.slice A17 y15.1.Again.length k17)] 33, .a (slA 45 e_api_Report A16 k16 y15.1.Reports), .a (slA 3 (eI .i64) A17 k17 y15.1.Again), .a (slA 27 e_api_Part (some ⟨b11, 0, none⟩) 2 [(⟨(w64 (a3)).tmod 32, w64 (200 + ((w64 (a3)).tmod 5)), (⟨#[97, 98, 99, 100]⟩ : ByteArray)⟩ : S_api_Part), (⟨(w64 (a3)).tmod 32, w64 (200 + ((w64 (a3)).tmod 5)), (⟨#[97, 98, 99, 100]⟩ : ByteArray)⟩ : S_api_Part)]), .c 0 [I ((w64 (a3)).tmod 32), I (w64 (200 + ((w64 (a3)).tmod 5))), S (⟨#[97, 98, 99, 100]⟩ : ByteArray)] 27, .a (slA 27 e_api_Part A9 k9 y8.1)], _, rfl, hw1.eq (by kernel_rfl), rfl, mt_same, ro_fin ?_⟩
          refine ro_q 3 [] [16, 17, 76, 77] [(16, .p 2 0), (17, I y32.2), (76, .v (.agg #[.slice A38 y37.1.Reports.length k38, .slice A39 y37.1.Again.length k39])), (77, I y37.2)] [] (by kernel_rfl) trivial ?_
          refine ro_op (by kernel_rfl) (op_alloc 33 18 (.agg #[.slice none 0 0, .slice none 0 0]) [.v (.slice none 0 0), .v (.slice none 0 0)] (fun b40 => [b10, b18, b35, b40]) (fun b40 => [.c 3 [.v (.slice none 0 0), .v (.slice none 0 0)] 33, .a (slA 45 e_api_Report A38 k38 y37.1.Reports), .a (slA 3 (eI .i64) A39 k39 y37.1.Again), .c 2 [.v (.slice A33 y32.1.Reports.length k33), .v (.slice A34 y32.1.Again.length k34)] 33, .a (slA 45 e_api_Report A33 k33 y32.1.Reports), .a (slA 3 (eI .i64) A34 k34 y32.1.Again), .a (slA 27 e_api_Part A28 k28 y27), .a (slA 27 e_api_Part (some ⟨b26, 0, none⟩) 1 [(⟨(w64 (a3)).tmod 32, w64 (200 + ((w64 (a3)).tmod 5)), (⟨#[97, 98, 99, 100]⟩ : ByteArray)⟩ : S_api_Part)]), .c 1 [.v (.slice A16 y15.1.Reports.length k16), .v (.slice A17 y15.1.Again.length k17)] 33, .a (slA 45 e_api_Report A16 k16 y15.1.Reports), .a (slA 3 (eI .i64) A17 k17 y15.1.Again), .a (slA 27 e_api_Part (some ⟨b11, 0, none⟩) 2 [(⟨(w64 (a3)).tmod 32, w64 (200 + ((w64 (a3)).tmod 5)), (⟨#[97, 98, 99, 100]⟩ : ByteArray)⟩ : S_api_Part), (⟨(w64 (a3)).tmod 32, w64 (200 + ((w64 (a3)).tmod 5)), (⟨#[97, 98, 99, 100]⟩ : ByteArray)⟩ : S_api_Part)]), .c 0 [I ((w64 (a3)).tmod 32), I (w64 (200 + ((w64 (a3)).tmod 5))), S (⟨#[97, 98, 99, 100]⟩ : ByteArray)] 27, .a (slA 27 e_api_Part A9 k9 y8.1)]) (by kernel_rfl) (by kernel_rfl) (by kernel_rfl) (by kernel_rfl) 3 (fun _ => by kernel_rfl) (fun _ => mt_bs (by kernel_rfl)) (fun _ => by kernel_rfl) (fun b40 => ro_fin ?_))
          refine ro_op (by kernel_rfl) (op_store 33 (.tmp 18) (.tmp 76) 3 0 (.v (.agg #[.slice A38 y37.1.Reports.length k38, .slice A39 y37.1.Again.length k39])) [.c 3 [.v (.slice A38 y37.1.Reports.length k38), .v (.slice A39 y37.1.Again.length k39)] 33, .a (slA 45 e_api_Report A38 k38 y37.1.Reports), .a (slA 3 (eI .i64) A39 k39 y37.1.Again), .c 2 [.v (.slice A33 y32.1.Reports.length k33), .v (.slice A34 y32.1.Again.length k34)] 33, .a (slA 45 e_api_Report A33 k33 y32.1.Reports), .a (slA 3 (eI .i64) A34 k34 y32.1.Again), .a (slA 27 e_api_Part A28 k28 y27), .a (slA 27 e_api_Part (some ⟨b26, 0, none⟩) 1 [(⟨(w64 (a3)).tmod 32, w64 (200 + ((w64 (a3)).tmod 5)), (⟨#[97, 98, 99, 100]⟩ : ByteArray)⟩ : S_api_Part)]), .c 1 [.v (.slice A16 y15.1.Reports.length k16), .v (.slice A17 y15.1.Again.length k17)] 33, .a (slA 45 e_api_Report A16 k16 y15.1.Reports), .a (slA 3 (eI .i64) A17 k17 y15.1.Again), .a (slA 27 e_api_Part (some ⟨b11, 0, none⟩) 2 [(⟨(w64 (a3)).tmod 32, w64 (200 + ((w64 (a3)).tmod 5)), (⟨#[97, 98, 99, 100]⟩ : ByteArray)⟩ : S_api_Part), (⟨(w64 (a3)).tmod 32, w64 (200 + ((w64 (a3)).tmod 5)), (⟨#[97, 98, 99, 100]⟩ : ByteArray)⟩ : S_api_Part)]), .c 0 [I ((w64 (a3)).tmod 32), I (w64 (200 + ((w64 (a3)).tmod 5))), S (⟨#[97, 98, 99, 100]⟩ : ByteArray)] 27, .a (slA 27 e_api_Part A9 k9 y8.1)] (by kernel_rfl) (by kernel_rfl) (by kernel_rfl) (by kernel_rfl) (ro_fin ?_))
          refine ro_q 1 [] [16, 17, 18, 19] [(16, .p 2 0), (17, I y32.2), (18, .p 3 0), (19, I y37.2)] [] (by kernel_rfl) trivial ?_
          refine ro_end (by kernel_rfl) (fin_next ?_)
          refine rn_seq ?_
          refine rn_text ?_
          refine ro_q 4 [] [16, 18, 81] [(16, .p 2 0), (18, .p 3 0), (81, B (y32.2 == y37.2))] [] (by kernel_rfl) trivial ?_
          refine ro_split 81 (y32.2 == y37.2) (by kernel_rfl) (fun c41 => ?_) (fun c41 => ?_)
          · rw [if_pos (eq_t c41)] at hres
            refine ro_q 4 [] [16, 18, 81, 83, 85] [(16, .p 2 0), (18, .p 3 0), (81, B true), (83, .v (.slice A33 y32.1.Reports.length k33)), (85, .v (.slice A38 y37.1.Reports.length k38))] [] (by kernel_rfl) trivial ?_
            refine bind_elim hres fun y43 hy43 hres => ?_
            refine ro_op (by kernel_rfl) (op_call (f := 8) (xs := #[(.tmp 83), (.tmp 85)]) (ats := #[30, 30]) (d := (some 86)) (args := #[.slice A33 y32.1.Reports.length k33, .slice A38 y37.1.Reports.length k38]) (by kernel_rfl) (by kernel_rfl) (by kernel_rfl) (by kernel_rfl) fun w hw => (keep_Reports_ok hy43 (row_at (U := 45) (E := e_api_Report) (A := A33) (c := k33) (L := y32.1.Reports) 4 (by kernel_rfl)) (row_at (U := 45) (E := e_api_Report) (A := A38) (c := k38) (L := y37.1.Reports) 1 (by kernel_rfl)) hw).mono ?_)
            rintro _ w1 ⟨rfl, hw1⟩
            refine ⟨_, [b10, b18, b35, b40], [.c 3 [.v (.slice A38 y37.1.Reports.length k38), .v (.slice A39 y37.1.Again.length k39)] 33, .a (slA 45 e_api_Report A38 k38 y37.1.Reports), .a (slA 3 (eI .i64) A39 k39 y37.1.Again), .c 2 [.v (.slice A33 y32.1.Reports.length k33), .v (.slice A34 y32.1.Again.length k34)] 33, .a (slA 45 e_api_Report A33 k33 y32.1.Reports), .a (slA 3 (eI .i64) A34 k34 y32.1.Again), .a (slA 27 e_api_Part A28 k28 y27), .a (slA 27 e_api_Part (some ⟨b26, 0, none⟩) 1 [(⟨(w64 (a3)).tmod 32, w64 (200 + ((w64 (a3)).tmod 5)), (⟨#[97, 98, 99, 100]⟩ : ByteArray)⟩ : S_api_Part)]), .c 1 [.v (.slice A16 y15.1.Reports.length k16), .v (.slice A17 y15.1.Again.length k17)] 33, .a (slA 45 e_api_Report A16 k16 y15.1.Reports), .a (slA 3 (eI .i64) A17 k17 y15.1.Again), .a (slA 27 e_api_Part (some ⟨b11, 0, none⟩) 2 [(⟨(w64 (a3)).tmod 32, w64 (200 + ((w64 (a3)).tmod 5)), (⟨#[97, 98, 99, 100]⟩ : ByteArray)⟩ : S_api_Part), (⟨(w64 (a3)).tmod 32, w64 (200 + ((w64 (a3)).tmod 5)), (⟨#[97, 98, 99, 100]⟩ : ByteArray)⟩ : S_api_Part)]), .c 0 [I ((w64 (a3)).tmod 32), I (w64 (200 + ((w64 (a3)).tmod 5))), S (⟨#[97, 98, 99, 100]⟩ : ByteArray)] 27, .a (slA 27 e_api_Part A9 k9 y8.1)], _, rfl, hw1.eq (by kernel_rfl), rfl, mt_same, ro_fin ?_⟩
            refine ro_q 2 [] [16, 18, 88] [(16, .p 2 0), (18, .p 3 0), (88, B y43)] [] (by kernel_rfl) trivial ?_
            refine ro_split 88 (y43) (by kernel_rfl) (fun c44 => ?_) (fun c44 => ?_)
            · rw [if_pos (c44)] at hres
              refine ro_q 4 [] [88, 90, 92] [(88, B true), (90, .v (.slice A34 y32.1.Again.length k34)), (92, .v (.slice A39 y37.1.Again.length k39))] [] (by kernel_rfl) trivial ?_
              refine bind_elim hres fun y46 hy46 hres => ?_
              refine ro_op (by kernel_rfl) (op_call (f := 9) (xs := #[(.tmp 90), (.tmp 92)]) (ats := #[31, 31]) (d := (some 93)) (args := #[.slice A34 y32.1.Again.length k34, .slice A39 y37.1.Again.length k39]) (by kernel_rfl) (by kernel_rfl) (by kernel_rfl) (by kernel_rfl) fun w hw => (keep_Ints_ok hy46 (row_at (U := 3) (E := (eI .i64)) (A := A34) (c := k34) (L := y32.1.Again) 5 (by kernel_rfl)) (row_at (U := 3) (E := (eI .i64)) (A := A39) (c := k39) (L := y37.1.Again) 2 (by kernel_rfl)) hw).mono ?_)
              rintro _ w1 ⟨rfl, hw1⟩
              refine ⟨_, [b10, b18, b35, b40], [.c 3 [.v (.slice A38 y37.1.Reports.length k38), .v (.slice A39 y37.1.Again.length k39)] 33, .a (slA 45 e_api_Report A38 k38 y37.1.Reports), .a (slA 3 (eI .i64) A39 k39 y37.1.Again), .c 2 [.v (.slice A33 y32.1.Reports.length k33), .v (.slice A34 y32.1.Again.length k34)] 33, .a (slA 45 e_api_Report A33 k33 y32.1.Reports), .a (slA 3 (eI .i64) A34 k34 y32.1.Again), .a (slA 27 e_api_Part A28 k28 y27), .a (slA 27 e_api_Part (some ⟨b26, 0, none⟩) 1 [(⟨(w64 (a3)).tmod 32, w64 (200 + ((w64 (a3)).tmod 5)), (⟨#[97, 98, 99, 100]⟩ : ByteArray)⟩ : S_api_Part)]), .c 1 [.v (.slice A16 y15.1.Reports.length k16), .v (.slice A17 y15.1.Again.length k17)] 33, .a (slA 45 e_api_Report A16 k16 y15.1.Reports), .a (slA 3 (eI .i64) A17 k17 y15.1.Again), .a (slA 27 e_api_Part (some ⟨b11, 0, none⟩) 2 [(⟨(w64 (a3)).tmod 32, w64 (200 + ((w64 (a3)).tmod 5)), (⟨#[97, 98, 99, 100]⟩ : ByteArray)⟩ : S_api_Part), (⟨(w64 (a3)).tmod 32, w64 (200 + ((w64 (a3)).tmod 5)), (⟨#[97, 98, 99, 100]⟩ : ByteArray)⟩ : S_api_Part)]), .c 0 [I ((w64 (a3)).tmod 32), I (w64 (200 + ((w64 (a3)).tmod 5))), S (⟨#[97, 98, 99, 100]⟩ : ByteArray)] 27, .a (slA 27 e_api_Part A9 k9 y8.1)], _, rfl, hw1.eq (by kernel_rfl), rfl, mt_same, ro_fin ?_⟩
              refine ro_q 2 [] [95] [(95, B y46)] [] (by kernel_rfl) trivial ?_
              refine ro_split 95 (y46) (by kernel_rfl) (fun c47 => ?_) (fun c47 => ?_)
              · rw [if_pos (c47)] at hres
                refine bind_elim hres fun y49 hy49 hres => ?_
                refine ro_op (by kernel_rfl) (op_call (f := 4) (xs := #[]) (ats := #[]) (d := (some 96)) (args := #[]) (by kernel_rfl) (by kernel_rfl) (by kernel_rfl) (by kernel_rfl) fun w hw => (law12_wakes_ok hy49 hw).mono ?_)
                rintro _ w1 ⟨rfl, hw1⟩
                refine ⟨_, [b10, b18, b35, b40], [.c 3 [.v (.slice A38 y37.1.Reports.length k38), .v (.slice A39 y37.1.Again.length k39)] 33, .a (slA 45 e_api_Report A38 k38 y37.1.Reports), .a (slA 3 (eI .i64) A39 k39 y37.1.Again), .c 2 [.v (.slice A33 y32.1.Reports.length k33), .v (.slice A34 y32.1.Again.length k34)] 33, .a (slA 45 e_api_Report A33 k33 y32.1.Reports), .a (slA 3 (eI .i64) A34 k34 y32.1.Again), .a (slA 27 e_api_Part A28 k28 y27), .a (slA 27 e_api_Part (some ⟨b26, 0, none⟩) 1 [(⟨(w64 (a3)).tmod 32, w64 (200 + ((w64 (a3)).tmod 5)), (⟨#[97, 98, 99, 100]⟩ : ByteArray)⟩ : S_api_Part)]), .c 1 [.v (.slice A16 y15.1.Reports.length k16), .v (.slice A17 y15.1.Again.length k17)] 33, .a (slA 45 e_api_Report A16 k16 y15.1.Reports), .a (slA 3 (eI .i64) A17 k17 y15.1.Again), .a (slA 27 e_api_Part (some ⟨b11, 0, none⟩) 2 [(⟨(w64 (a3)).tmod 32, w64 (200 + ((w64 (a3)).tmod 5)), (⟨#[97, 98, 99, 100]⟩ : ByteArray)⟩ : S_api_Part), (⟨(w64 (a3)).tmod 32, w64 (200 + ((w64 (a3)).tmod 5)), (⟨#[97, 98, 99, 100]⟩ : ByteArray)⟩ : S_api_Part)]), .c 0 [I ((w64 (a3)).tmod 32), I (w64 (200 + ((w64 (a3)).tmod 5))), S (⟨#[97, 98, 99, 100]⟩ : ByteArray)] 27, .a (slA 27 e_api_Part A9 k9 y8.1)], _, rfl, hw1.eq (by kernel_rfl), rfl, mt_same, ro_fin ?_⟩
                refine ro_q 2 [] [6] [(6, B y49)] [] (by kernel_rfl) trivial ?_
                refine ro_end (by kernel_rfl) (fin_next ?_)
                refine rn_ret ?_
                refine fin_ret [.bool y49] (by kernel_rfl) fun w' hw' => ?_
                have hq := Option.some.inj hres
                subst hq
                exact ⟨rfl, hw'.drop⟩
              · rw [if_neg (nt_of_f c47)] at hres
                refine ro_q 3 [] [6] [(6, B false)] [] (by kernel_rfl) trivial ?_
                refine ro_end (by kernel_rfl) (fin_next ?_)
                refine rn_ret ?_
                refine fin_ret [.bool false] (by kernel_rfl) fun w' hw' => ?_
                have hq := Option.some.inj hres
                subst hq
                exact ⟨rfl, hw'.drop⟩
            · rw [if_neg (nt_of_f c44)] at hres
              refine ro_q 10 [] [6] [(6, B false)] [] (by kernel_rfl) trivial ?_
              refine ro_end (by kernel_rfl) (fin_next ?_)
              refine rn_ret ?_
              refine fin_ret [.bool false] (by kernel_rfl) fun w' hw' => ?_
              have hq := Option.some.inj hres
              subst hq
              exact ⟨rfl, hw'.drop⟩
          · rw [if_neg (eq_f c41)] at hres
            refine ro_q 17 [] [6] [(6, B false)] [] (by kernel_rfl) trivial ?_
            refine ro_end (by kernel_rfl) (fin_next ?_)
            refine rn_ret ?_
            refine fin_ret [.bool false] (by kernel_rfl) fun w' hw' => ?_
            have hq := Option.some.inj hres
            subst hq
            exact ⟨rfl, hw'.drop⟩
end Fl
