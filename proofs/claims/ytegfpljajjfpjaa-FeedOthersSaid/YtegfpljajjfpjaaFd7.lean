import Derived.Test.YtegfpljajjfpjaaFwT
import Derived.Test.YtegfpljajjfpjaaProg
import Derived.Test.YtegfpljajjfpjaaFd0
import Derived.Test.YtegfpljajjfpjaaFd1
import Derived.Test.YtegfpljajjfpjaaFd2
import Derived.Test.YtegfpljajjfpjaaFd4
import Derived.Test.YtegfpljajjfpjaaFd5
import Derived.Test.YtegfpljajjfpjaaFd6
set_option linter.unusedVariables false
set_option maxRecDepth 100000
set_option maxHeartbeats 8000000
namespace Fl
open Go Go.Proofs Fw
/- 7 flywheel/feed.Read -/
def feed_Read.j2609 (x1318 : S_feed_Feedback) : Option (S_feed_Feedback × Int) :=
  some (x1318, 0)
def feed_Read.j2306 (x1318 : S_feed_Feedback) (j2302 : Bool) : Option (S_feed_Feedback × Int) :=
  (if j2302 = true then some ((⟨[], []⟩ : S_feed_Feedback), 3) else feed_Read.j2609 x1318)
def feed_Read.l1964 (a2 : Int) (y5 : (List S_api_Part) × Int) : Nat → Int → Int → S_feed_Feedback → Option (S_feed_Feedback × Int)
  | 0, _, _, _ => none
  | k + 1, x1316, x1317, x1318 =>
    (if x1317 < (y5.1.length : Int) then (idx y5.1 x1317).bind fun y1966 =>
  (feed_decoded y1966).bind fun y1969 =>
  (if y1969.2 = 0 then (match y1969.1 with
  | .nil => feed_Read.l1964 a2 y5 k x1316 (w64 (x1317 + 1)) x1318
  | .c0 y1975 => (feed_Feedback_first x1318 y1975 (mn (mx a2 0) 1125899906842624)).bind fun y1982 =>
  feed_Read.l1964 a2 y5 k (w64 (x1316 + 1)) (w64 (x1317 + 1)) y1982
  | .c1 y1983 => (feed_Feedback_second x1318 y1983 (mn (mx a2 0) 1125899906842624)).bind fun y1988 =>
  feed_Read.l1964 a2 y5 k (w64 (x1316 + 1)) (w64 (x1317 + 1)) y1988
  | .c2 y1989 => (cat 17592186044416 x1318.Again y1989.Lost).bind fun y1994 =>
  feed_Read.l1964 a2 y5 k (w64 (x1316 + 1)) (w64 (x1317 + 1)) (⟨x1318.Reports, y1994⟩ : S_feed_Feedback)) else some ((⟨[], []⟩ : S_feed_Feedback), y1969.2)) else (if x1316 = 0 then some ((⟨[], []⟩ : S_feed_Feedback), 120) else (if 4096 < (x1318.Reports.length : Int) then feed_Read.j2306 x1318 true else feed_Read.j2306 x1318 (decide (4096 < (x1318.Again.length : Int))))))
def feed_Read (a1 : ByteArray) (a2 : Int) : Option (S_feed_Feedback × Int) :=
  (rtcp_Split a1).bind fun y5 =>
  (if y5.2 = 0 then feed_Read.l1964 a2 y5 FUEL 0 0 (⟨[], []⟩ : S_feed_Feedback) else some ((⟨[], []⟩ : S_feed_Feedback), y5.2))
theorem feed_Read_ok {a1 : ByteArray} {a2 : Int} {r : S_feed_Feedback × Int} (hres : feed_Read a1 a2 = some r) {w0 w : World} {F : List Asn} (hw : SH w0 w (F)) :
    Calls Try.prog 7 #[.string a1, .int .i64 a2] w fun e w' => ∃ A2612 k2612 A2613 k2613, e = .returned (.tuple #[.agg #[.slice A2612 r.1.Reports.length k2612, .slice A2613 r.1.Again.length k2613], .int .i64 r.2]) ∧ SH w0 w' ([slA 45 e_api_Report A2612 k2612 r.1.Reports, slA 3 (eI .i64) A2613 k2613 r.1.Again] ++ F) := by
  refine fw_enter (n := 90) (bs := []) (env := [(0, S a1), (1, I a2)]) (H := []) (F := F) Try.func7 rfl (by kernel_rfl) (by kernel_rfl) (by kernel_rfl) (hw.eq (by kernel_rfl)) ?_
  unfold feed_Read at hres
  refine rn_seq ?_
  refine rn_text ?_
  refine ro_op (by kernel_rfl) (op_alloc 33 4 (.agg #[.slice none 0 0, .slice none 0 0]) [.v (.slice none 0 0), .v (.slice none 0 0)] (fun b3 => [b3]) (fun b3 => [.c 0 [.v (.slice none 0 0), .v (.slice none 0 0)] 33]) (by kernel_rfl) (by kernel_rfl) (by kernel_rfl) (by kernel_rfl) 0 (fun _ => by kernel_rfl) (fun _ => mt_bs (by kernel_rfl)) (fun _ => by kernel_rfl) (fun b3 => ro_fin ?_))
  refine ro_q 1 [] [0, 1, 4] [(0, S a1), (1, I a2), (4, .p 0 0)] [] (by kernel_rfl) trivial ?_
  refine ro_end (by kernel_rfl) (fin_next ?_)
  refine rn_seq ?_
  refine rn_q [] [0, 1, 4] [(0, S a1), (1, I (mn (mx a2 0) 1125899906842624)), (4, .p 0 0)] [] (by kernel_rfl) trivial (fin_next ?_)
  refine rn_seq ?_
  refine rn_text ?_
  refine ro_q 1 [] [1, 4, 21] [(1, I (mn (mx a2 0) 1125899906842624)), (4, .p 0 0), (21, S a1)] [] (by kernel_rfl) trivial ?_
  refine bind_elim hres fun y5 hy5 hres => ?_
  refine ro_op (by kernel_rfl) (op_call (f := 11) (xs := #[(.tmp 21)]) (ats := #[9]) (d := (some 22)) (args := #[.string a1]) (by kernel_rfl) (by kernel_rfl) (by kernel_rfl) (by kernel_rfl) fun w hw => (rtcp_Split_ok hy5 hw).mono ?_)
  rintro _ w1 ⟨A6, k6, rfl, hw1⟩
  refine ⟨_, [b3], [.a (slA 27 e_api_Part A6 k6 y5.1), .c 0 [.v (.slice none 0 0), .v (.slice none 0 0)] 33], _, rfl, hw1.eq (by kernel_rfl), rfl, mt_same, ro_fin ?_⟩
  refine ro_q 5 [] [1, 4, 6, 7] [(1, I (mn (mx a2 0) 1125899906842624)), (4, .p 0 0), (6, .v (.slice A6 y5.1.length k6)), (7, I y5.2)] [] (by kernel_rfl) trivial ?_
  refine ro_end (by kernel_rfl) (fin_next ?_)
  refine rn_seq ?_
  refine rn_seq ?_
  refine rn_q [] [1, 4, 6, 7, 26] [(1, I (mn (mx a2 0) 1125899906842624)), (4, .p 0 0), (6, .v (.slice A6 y5.1.length k6)), (7, I y5.2), (26, B (y5.2 != 0))] [] (by kernel_rfl) trivial (fin_next ?_)
  refine rn_cond (y5.2 != 0) (by kernel_rfl) (fun c7 => ?_) (fun c7 => ?_)
  · rw [if_neg (ne_t c7)] at hres
    refine rn_seq ?_
    refine rn_text ?_
    refine ro_q 2 [] [4, 27, 28] [(4, .p 0 0), (27, .v (.agg #[.slice none 0 0, .slice none 0 0])), (28, I y5.2)] [] (by kernel_rfl) trivial ?_
    refine ro_op (by kernel_rfl) (op_store 33 (.tmp 4) (.tmp 27) 0 0 (.v (.agg #[.slice none 0 0, .slice none 0 0])) [.a (slA 27 e_api_Part A6 k6 y5.1), .c 0 [.v (.slice none 0 0), .v (.slice none 0 0)] 33] (by kernel_rfl) (by kernel_rfl) (by kernel_rfl) (by kernel_rfl) (ro_fin ?_))
    refine ro_q 1 [] [4, 5] [(4, .p 0 0), (5, I y5.2)] [] (by kernel_rfl) trivial ?_
    refine ro_end (by kernel_rfl) (fin_next ?_)
    refine rn_ret (fin_then_ret ?_)
    refine fin_nil 45 e_api_Report ?_
    refine fin_nil 3 (eI .i64) ?_
    refine fin_ret [.agg #[.slice none 0 0, .slice none 0 0], .int .i64 y5.2] (by kernel_rfl) fun w' hw' => ?_
    have hq := Option.some.inj hres
    subst hq
    exact ⟨none, 0, none, 0, rfl, hw'.take (L' := [slA 45 e_api_Report none 0 [], slA 3 (eI .i64) none 0 []]) [1, 0] [slA 27 e_api_Part A6 k6 y5.1, cellsA b3 [.slice none 0 0, .slice none 0 0] 33] (by kernel_rfl)⟩
  · rw [if_pos (ne_f c7)] at hres
    refine rn_skip (fin_next ?_)
    refine rn_seq ?_
    refine rn_text ?_
    refine ro_op (by kernel_rfl) (op_alloc 33 8 (.agg #[.slice none 0 0, .slice none 0 0]) [.v (.slice none 0 0), .v (.slice none 0 0)] (fun b10 => [b3, b10]) (fun b10 => [.c 1 [.v (.slice none 0 0), .v (.slice none 0 0)] 33, .a (slA 27 e_api_Part A6 k6 y5.1), .c 0 [.v (.slice none 0 0), .v (.slice none 0 0)] 33]) (by kernel_rfl) (by kernel_rfl) (by kernel_rfl) (by kernel_rfl) 1 (fun _ => by kernel_rfl) (fun _ => mt_bs (by kernel_rfl)) (fun _ => by kernel_rfl) (fun b10 => ro_fin ?_))
    refine ro_end (by kernel_rfl) (fin_next ?_)
    refine rn_seq ?_
    refine rn_q [] [1, 4, 6, 8, 9] [(1, I (mn (mx a2 0) 1125899906842624)), (4, .p 0 0), (6, .v (.slice A6 y5.1.length k6)), (8, .p 1 0), (9, I 0)] [] (by kernel_rfl) trivial (fin_next ?_)
    refine rn_seq ?_
    refine rn_seq ?_
    refine rn_q [] [1, 4, 8, 9, 29, 30, 31] [(1, I (mn (mx a2 0) 1125899906842624)), (4, .p 0 0), (8, .p 1 0), (9, I 0), (29, .v (.slice A6 y5.1.length k6)), (30, I (y5.1.length : Int)), (31, I 0)] [] (by kernel_rfl) trivial (fin_next ?_)
    refine rn_block ?_
    refine rn_nil 45 e_api_Report ?_
    refine rn_nil 3 (eI .i64) ?_
    refine rn_fold [.a (R_feed_Feedback b10 (⟨[], []⟩ : S_feed_Feedback)), .a (slA 27 e_api_Part A6 k6 y5.1), .c 0 [.v (.slice none 0 0), .v (.slice none 0 0)] 33] (fun w hw => (R_feed_Feedback.ent (b := b10) (x := (⟨[], []⟩ : S_feed_Feedback)) _ _ _ (hw.sel (L' := R_feed_Feedback.b b10 (⟨[], []⟩ : S_feed_Feedback) none 0 none 0 ++ ([slA 27 e_api_Part A6 k6 y5.1, cellsA b3 [.slice none 0 0, .slice none 0 0] 33] ++ F)) [2, 1, 0] (by kernel_rfl))).eq (by kernel_rfl)) ?_
    refine rn_loop (V := Int × Int × S_feed_Feedback) (J := fun k v => feed_Read.l1964 a2 y5 k v.1 v.2.1 v.2.2 = some r) (sv := fun v => ⟨[b3, b10], [(1, I (mn (mx a2 0) 1125899906842624)), (4, .p 0 0), (8, .p 1 0), (9, I v.1), (29, .v (.slice A6 y5.1.length k6)), (30, I (y5.1.length : Int)), (31, I v.2.1)], [.a (R_feed_Feedback b10 v.2.2), .a (slA 27 e_api_Part A6 k6 y5.1), .c 0 [.v (.slice none 0 0), .v (.slice none 0 0)] 33]⟩) FUEL (0, 0, (⟨[], []⟩ : S_feed_Feedback)) hres (fun a w hs => hs.conv [0, 0, 0] (by kernel_rfl) (by kernel_rfl) ⟨[], by kernel_rfl⟩) ?_
    rintro k1964 ⟨x1316, x1317, x1318⟩ hres
    rcases k1964 with _ | k1964
    · rw [feed_Read.l1964] at hres; cases hres
    · rw [feed_Read.l1964] at hres
      refine rn_seq ?_
      refine rn_q [] [1, 4, 8, 9, 29, 30, 31, 32] [(1, I (mn (mx a2 0) 1125899906842624)), (4, .p 0 0), (8, .p 1 0), (9, I x1316), (29, .v (.slice A6 y5.1.length k6)), (30, I (y5.1.length : Int)), (31, I x1317), (32, B (decide (x1317 < (y5.1.length : Int))))] [] (by kernel_rfl) trivial (fin_next ?_)
      refine rn_seq ?_
      refine rn_cond (decide (x1317 < (y5.1.length : Int))) (by kernel_rfl) (fun c1965 => ?_) (fun c1965 => ?_)
      · rw [if_pos (of_decide_eq_true c1965)] at hres
        refine rn_skip (fin_next ?_)
        refine rn_seq ?_
        refine rn_block ?_
        refine rn_seq ?_
        refine bind_elim hres fun y1966 hy1966 hres => ?_
        refine rn_text ?_
        refine ro_q 2 [(0, .v (elP A6 (x1317.toNat * 3 + 0))), (1, .v (.agg #[.int .i64 y1966.Count, .int .i64 y1966.Type_, .string y1966.Body]))] [1, 4, 8, 9, 29, 30, 31, 34] [(1, I (mn (mx a2 0) 1125899906842624)), (4, .p 0 0), (8, .p 1 0), (9, I x1316), (29, .v (.slice A6 y5.1.length k6)), (30, I (y5.1.length : Int)), (31, I x1317), (34, .v (.agg #[.int .i64 y1966.Count, .int .i64 y1966.Type_, .string y1966.Body]))] [(smIa 23 (.slice A6 y5.1.length k6) (.int .i64 x1317), elP A6 (x1317.toNat * 3 + 0)), (smLd 27 (elP A6 (x1317.toNat * 3 + 0)), .agg #[.int .i64 y1966.Count, .int .i64 y1966.Type_, .string y1966.Body])] (by kernel_rfl) ⟨ob_ia (E := e_api_Part) (U := 27) (i := x1317) (sz := 3) (by kernel_rfl) (by kernel_rfl) (by kernel_rfl) (row_at (U := 27) (E := e_api_Part) (A := A6) (c := k6) (L := y5.1) 1 (by kernel_rfl)) hy1966, ⟨ob_lda (E := e_api_Part) (i := x1317) (sz := 3) (o := 0) (vs := [.int .i64 y1966.Count, .int .i64 y1966.Type_, .string y1966.Body]) (d := ((Try.prog.underlying 27).get rfl)) (by kernel_rfl) (by kernel_rfl) (tz := 3) (by kernel_rfl) (by kernel_rfl) (by kernel_rfl) (by kernel_rfl) (row_at (U := 27) (E := e_api_Part) (A := A6) (c := k6) (L := y5.1) 1 (by kernel_rfl)) hy1966, trivial⟩⟩ ?_
        refine ro_op (by kernel_rfl) (op_alloc 27 11 (.agg #[.int .i64 0, .int .i64 0, .string (⟨#[]⟩ : ByteArray)]) [I 0, I 0, S (⟨#[]⟩ : ByteArray)] (fun b1967 => [b3, b10, b1967]) (fun b1967 => [.c 2 [I 0, I 0, S (⟨#[]⟩ : ByteArray)] 27, .a (R_feed_Feedback b10 x1318), .a (slA 27 e_api_Part A6 k6 y5.1), .c 0 [.v (.slice none 0 0), .v (.slice none 0 0)] 33]) (by kernel_rfl) (by kernel_rfl) (by kernel_rfl) (by kernel_rfl) 2 (fun _ => by kernel_rfl) (fun _ => mt_bs (by kernel_rfl)) (fun _ => by kernel_rfl) (fun b1967 => ro_fin ?_))
        refine ro_op (by kernel_rfl) (op_store 27 (.tmp 11) (.tmp 34) 2 0 (.v (.agg #[.int .i64 y1966.Count, .int .i64 y1966.Type_, .string y1966.Body])) [.c 2 [I y1966.Count, I y1966.Type_, S y1966.Body] 27, .a (R_feed_Feedback b10 x1318), .a (slA 27 e_api_Part A6 k6 y5.1), .c 0 [.v (.slice none 0 0), .v (.slice none 0 0)] 33] (by kernel_rfl) (by kernel_rfl) (by kernel_rfl) (by kernel_rfl) (ro_fin ?_))
        refine ro_end (by kernel_rfl) (fin_next ?_)
        refine rn_seq ?_
        refine rn_text ?_
        refine ro_q 1 [] [1, 4, 8, 9, 29, 30, 31, 36] [(1, I (mn (mx a2 0) 1125899906842624)), (4, .p 0 0), (8, .p 1 0), (9, I x1316), (29, .v (.slice A6 y5.1.length k6)), (30, I (y5.1.length : Int)), (31, I x1317), (36, .v (.agg #[.int .i64 y1966.Count, .int .i64 y1966.Type_, .string y1966.Body]))] [] (by kernel_rfl) trivial ?_
        refine bind_elim hres fun y1969 hy1969 hres => ?_
        refine ro_op (by kernel_rfl) (op_call (f := 12) (xs := #[(.tmp 36)]) (ats := #[27]) (d := (some 37)) (args := #[.agg #[.int .i64 y1966.Count, .int .i64 y1966.Type_, .string y1966.Body]]) (by kernel_rfl) (by kernel_rfl) (by kernel_rfl) (by kernel_rfl) fun w hw => (feed_decoded_ok hy1969 hw).mono ?_)
        rintro _ w1 ⟨p1970, rfl, hw1⟩
        refine ⟨_, [b3, b10, b1967], [.a (IFA_feed_told p1970 y1969.1), .c 2 [I y1966.Count, I y1966.Type_, S y1966.Body] 27, .a (R_feed_Feedback b10 x1318), .a (slA 27 e_api_Part A6 k6 y5.1), .c 0 [.v (.slice none 0 0), .v (.slice none 0 0)] 33], _, rfl, hw1.eq (by kernel_rfl), rfl, mt_same, ro_fin ?_⟩
        refine ro_q 5 [] [1, 4, 8, 9, 12, 13, 29, 30, 31] [(1, I (mn (mx a2 0) 1125899906842624)), (4, .p 0 0), (8, .p 1 0), (9, I x1316), (12, .v (p1970)), (13, I y1969.2), (29, .v (.slice A6 y5.1.length k6)), (30, I (y5.1.length : Int)), (31, I x1317)] [] (by kernel_rfl) trivial ?_
        refine ro_end (by kernel_rfl) (fin_next ?_)
        refine rn_seq ?_
        refine rn_seq ?_
        refine rn_q [] [1, 4, 8, 9, 12, 13, 29, 30, 31, 41] [(1, I (mn (mx a2 0) 1125899906842624)), (4, .p 0 0), (8, .p 1 0), (9, I x1316), (12, .v (p1970)), (13, I y1969.2), (29, .v (.slice A6 y5.1.length k6)), (30, I (y5.1.length : Int)), (31, I x1317), (41, B (y1969.2 != 0))] [] (by kernel_rfl) trivial (fin_next ?_)
        refine rn_cond (y1969.2 != 0) (by kernel_rfl) (fun c1971 => ?_) (fun c1971 => ?_)
        · rw [if_neg (ne_t c1971)] at hres
          refine rn_seq ?_
          refine rn_text ?_
          refine ro_q 2 [] [4, 42, 43] [(4, .p 0 0), (42, .v (.agg #[.slice none 0 0, .slice none 0 0])), (43, I y1969.2)] [] (by kernel_rfl) trivial ?_
          refine ro_op (by kernel_rfl) (op_store 33 (.tmp 4) (.tmp 42) 0 0 (.v (.agg #[.slice none 0 0, .slice none 0 0])) [.a (IFA_feed_told p1970 y1969.1), .c 2 [I y1966.Count, I y1966.Type_, S y1966.Body] 27, .a (R_feed_Feedback b10 x1318), .a (slA 27 e_api_Part A6 k6 y5.1), .c 0 [.v (.slice none 0 0), .v (.slice none 0 0)] 33] (by kernel_rfl) (by kernel_rfl) (by kernel_rfl) (by kernel_rfl) (ro_fin ?_))
          refine ro_q 1 [] [4, 5] [(4, .p 0 0), (5, I y1969.2)] [] (by kernel_rfl) trivial ?_
          refine ro_end (by kernel_rfl) (fin_next ?_)
          refine rn_ret (fin_then_ret (fin_block_ret (fin_then_ret (fin_then_ret (fin_block_ret (fin_then_ret ?_))))))
          refine fin_nil 45 e_api_Report ?_
          refine fin_nil 3 (eI .i64) ?_
          refine fin_ret [.agg #[.slice none 0 0, .slice none 0 0], .int .i64 y1969.2] (by kernel_rfl) fun w' hw' => ?_
          have hq := Option.some.inj hres
          subst hq
          exact ⟨none, 0, none, 0, rfl, hw'.take (L' := [slA 45 e_api_Report none 0 [], slA 3 (eI .i64) none 0 []]) [1, 0] [IFA_feed_told p1970 y1969.1, cellsA b1967 [.int .i64 y1966.Count, .int .i64 y1966.Type_, .string y1966.Body] 27, R_feed_Feedback b10 x1318, slA 27 e_api_Part A6 k6 y5.1, cellsA b3 [.slice none 0 0, .slice none 0 0] 33] (by kernel_rfl)⟩
        · rw [if_pos (ne_f c1971)] at hres
          refine rn_skip (fin_next ?_)
          refine rn_seq ?_
          refine rn_q [] [1, 4, 8, 9, 29, 30, 31, 44] [(1, I (mn (mx a2 0) 1125899906842624)), (4, .p 0 0), (8, .p 1 0), (9, I x1316), (29, .v (.slice A6 y5.1.length k6)), (30, I (y5.1.length : Int)), (31, I x1317), (44, .v (p1970))] [] (by kernel_rfl) trivial (fin_next ?_)
          refine rn_block ?_
          refine rn_seq ?_
          obtain ⟨z, hz1974⟩ : ∃ z, y1969.1 = z := ⟨_, rfl⟩
          rcases z with _ | y1975 | y1983 | y1989
          · rw [hz1974] at hres
            dsimp only at hres
            refine rn_exP (V := Unit) (fun _ => p1970 = .nilIface) (fun v => ⟨[b3, b10, b1967], [(1, I (mn (mx a2 0) 1125899906842624)), (4, .p 0 0), (8, .p 1 0), (9, I x1316), (29, .v (.slice A6 y5.1.length k6)), (30, I (y5.1.length : Int)), (31, I x1317), (44, .v (.nilIface))], [.c 2 [I y1966.Count, I y1966.Type_, S y1966.Body] 27, .a (R_feed_Feedback b10 x1318), .a (slA 27 e_api_Part A6 k6 y5.1), .c 0 [.v (.slice none 0 0), .v (.slice none 0 0)] 33]⟩) (fun w hw => ?_) (fun _ => by kernel_rfl) (fun _ hp => by subst hp; kernel_rfl) ?_
            · obtain ⟨hp, hw⟩ := IFA_feed_told.out_nil ((hw.sel (L' := IFA_feed_told p1970 y1969.1 :: ([cellsA b1967 [.int .i64 y1966.Count, .int .i64 y1966.Type_, .string y1966.Body] 27, R_feed_Feedback b10 x1318, slA 27 e_api_Part A6 k6 y5.1, cellsA b3 [.slice none 0 0, .slice none 0 0] 33] ++ F)) [0] (by kernel_rfl)).eq (by rw [hz1974]))
              exact ⟨(), hp, hw.eq (by kernel_rfl)⟩
            rintro _ rfl
            refine rn_q [] [1, 4, 8, 9, 29, 30, 31, 44, 46, 47] [(1, I (mn (mx a2 0) 1125899906842624)), (4, .p 0 0), (8, .p 1 0), (9, I x1316), (29, .v (.slice A6 y5.1.length k6)), (30, I (y5.1.length : Int)), (31, I x1317), (44, .v (.nilIface)), (46, B false), (47, .v (.agg #[.int .u32 0, .slice none 0 0, .int .u32 0]))] [] (by kernel_rfl) trivial (fin_next ?_)
            refine rn_cond_f (by kernel_rfl) ?_
            refine rn_seq ?_
            refine rn_q [] [1, 4, 8, 9, 29, 30, 31, 44, 54, 55] [(1, I (mn (mx a2 0) 1125899906842624)), (4, .p 0 0), (8, .p 1 0), (9, I x1316), (29, .v (.slice A6 y5.1.length k6)), (30, I (y5.1.length : Int)), (31, I x1317), (44, .v (.nilIface)), (54, B false), (55, .v (.agg #[.int .u32 0, .int .u32 0, .int .i64 0, .int .i64 0, .int .i64 0, .slice none 0 0, .slice none 0 0]))] [] (by kernel_rfl) trivial (fin_next ?_)
            refine rn_cond_f (by kernel_rfl) ?_
            refine rn_seq ?_
            refine rn_q [] [1, 4, 8, 9, 29, 30, 31, 62, 63] [(1, I (mn (mx a2 0) 1125899906842624)), (4, .p 0 0), (8, .p 1 0), (9, I x1316), (29, .v (.slice A6 y5.1.length k6)), (30, I (y5.1.length : Int)), (31, I x1317), (62, B false), (63, .v (.agg #[.int .u32 0, .int .u32 0, .slice none 0 0]))] [] (by kernel_rfl) trivial (fin_next ?_)
            refine rn_cond_f (by kernel_rfl) ?_
            refine rn_skip (fin_block (fin_block (fin_next ?_)))
            refine rn_q [] [1, 4, 8, 9, 29, 30, 31] [(1, I (mn (mx a2 0) 1125899906842624)), (4, .p 0 0), (8, .p 1 0), (9, I x1316), (29, .v (.slice A6 y5.1.length k6)), (30, I (y5.1.length : Int)), (31, I (w64 (x1317 + 1)))] [] (by kernel_rfl) trivial (fin_then ?_)
            refine fin_loop (x1316, w64 (x1317 + 1), x1318) hres [1, 1, 1] [cellsA b1967 [.int .i64 y1966.Count, .int .i64 y1966.Type_, .string y1966.Body] 27] (by kernel_rfl) (by kernel_rfl) (by kernel_rfl)
          · rw [hz1974] at hres
            dsimp only at hres
            refine rn_exP (V := Option Addr × Nat) (fun v => p1970 = .iface 56 (.agg #[.int .u32 y1975.Sender, .slice v.1 y1975.Blocks.length v.2, .int .u32 y1975.Stamp])) (fun v => ⟨[b3, b10, b1967], [(1, I (mn (mx a2 0) 1125899906842624)), (4, .p 0 0), (8, .p 1 0), (9, I x1316), (29, .v (.slice A6 y5.1.length k6)), (30, I (y5.1.length : Int)), (31, I x1317), (44, .v (.iface 56 (.agg #[.int .u32 y1975.Sender, .slice v.1 y1975.Blocks.length v.2, .int .u32 y1975.Stamp])))], [.a (slN 87 n_api_Block v.1 v.2 y1975.Blocks), .c 2 [I y1966.Count, I y1966.Type_, S y1966.Body] 27, .a (R_feed_Feedback b10 x1318), .a (slA 27 e_api_Part A6 k6 y5.1), .c 0 [.v (.slice none 0 0), .v (.slice none 0 0)] 33]⟩) (fun w hw => ?_) (fun _ => by kernel_rfl) (fun _ hp => by subst hp; kernel_rfl) ?_
            · obtain ⟨A1976, k1976, hp, hw⟩ := IFA_feed_told.out0 ((hw.sel (L' := IFA_feed_told p1970 y1969.1 :: ([cellsA b1967 [.int .i64 y1966.Count, .int .i64 y1966.Type_, .string y1966.Body] 27, R_feed_Feedback b10 x1318, slA 27 e_api_Part A6 k6 y5.1, cellsA b3 [.slice none 0 0, .slice none 0 0] 33] ++ F)) [0] (by kernel_rfl)).eq (by rw [hz1974]))
              exact ⟨(A1976, k1976), hp, hw.eq (by kernel_rfl)⟩
            rintro ⟨A1976, k1976⟩ rfl
            refine rn_q [] [1, 4, 8, 9, 29, 30, 31, 44, 46, 47] [(1, I (mn (mx a2 0) 1125899906842624)), (4, .p 0 0), (8, .p 1 0), (9, I x1316), (29, .v (.slice A6 y5.1.length k6)), (30, I (y5.1.length : Int)), (31, I x1317), (44, .v (.iface 56 (.agg #[.int .u32 y1975.Sender, .slice A1976 y1975.Blocks.length k1976, .int .u32 y1975.Stamp]))), (46, B true), (47, .v (.agg #[.int .u32 y1975.Sender, .slice A1976 y1975.Blocks.length k1976, .int .u32 y1975.Stamp]))] [] (by kernel_rfl) trivial (fin_next ?_)
            refine rn_cond_t (by kernel_rfl) ?_
            refine rn_seq ?_
            refine rn_text ?_
            refine ro_op (by kernel_rfl) (op_alloc 56 14 (.agg #[.int .u32 0, .slice none 0 0, .int .u32 0]) [U .u32 0, .v (.slice none 0 0), U .u32 0] (fun b1977 => [b3, b10, b1967, b1977]) (fun b1977 => [.c 3 [U .u32 0, .v (.slice none 0 0), U .u32 0] 56, .a (slN 87 n_api_Block A1976 k1976 y1975.Blocks), .c 2 [I y1966.Count, I y1966.Type_, S y1966.Body] 27, .a (R_feed_Feedback b10 x1318), .a (slA 27 e_api_Part A6 k6 y5.1), .c 0 [.v (.slice none 0 0), .v (.slice none 0 0)] 33]) (by kernel_rfl) (by kernel_rfl) (by kernel_rfl) (by kernel_rfl) 3 (fun _ => by kernel_rfl) (fun _ => mt_bs (by kernel_rfl)) (fun _ => by kernel_rfl) (fun b1977 => ro_fin ?_))
            refine ro_op (by kernel_rfl) (op_store 56 (.tmp 14) (.tmp 47) 3 0 (.v (.agg #[.int .u32 y1975.Sender, .slice A1976 y1975.Blocks.length k1976, .int .u32 y1975.Stamp])) [.c 3 [U .u32 y1975.Sender, .v (.slice A1976 y1975.Blocks.length k1976), U .u32 y1975.Stamp] 56, .a (slN 87 n_api_Block A1976 k1976 y1975.Blocks), .c 2 [I y1966.Count, I y1966.Type_, S y1966.Body] 27, .a (R_feed_Feedback b10 x1318), .a (slA 27 e_api_Part A6 k6 y5.1), .c 0 [.v (.slice none 0 0), .v (.slice none 0 0)] 33] (by kernel_rfl) (by kernel_rfl) (by kernel_rfl) (by kernel_rfl) (ro_fin ?_))
            refine ro_end (by kernel_rfl) (fin_next ?_)
            refine rn_seq ?_
            refine rn_exP (V := List (S_api_Block × Option Addr × Nat)) (fun v => v.map (·.1) = y1975.Blocks) (fun G1980 => ⟨[b3, b10, b1967, b1977], [(1, I (mn (mx a2 0) 1125899906842624)), (4, .p 0 0), (8, .p 1 0), (9, I x1316), (14, .p 3 0), (29, .v (.slice A6 y5.1.length k6)), (30, I (y5.1.length : Int)), (31, I x1317), (44, .v (.iface 56 (.agg #[.int .u32 y1975.Sender, .slice A1976 y1975.Blocks.length k1976, .int .u32 y1975.Stamp]))), (46, B true), (47, .v (.agg #[.int .u32 y1975.Sender, .slice A1976 y1975.Blocks.length k1976, .int .u32 y1975.Stamp]))], [.a (slA 87 n_api_Block.E A1976 k1976 G1980), .a (kids n_api_Block G1980), .c 3 [U .u32 y1975.Sender, .v (.slice A1976 y1975.Blocks.length k1976), U .u32 y1975.Stamp] 56, .c 2 [I y1966.Count, I y1966.Type_, S y1966.Body] 27, .a (R_feed_Feedback b10 x1318), .a (slA 27 e_api_Part A6 k6 y5.1), .c 0 [.v (.slice none 0 0), .v (.slice none 0 0)] 33]⟩) (fun w hw => ?_) (fun _ => by kernel_rfl) (fun _ _ => by kernel_rfl) ?_
            · obtain ⟨G, hG, hw⟩ := slN_out (hw.sel (L' := slN 87 n_api_Block A1976 k1976 y1975.Blocks :: ([cellsA b1977 [.int .u32 y1975.Sender, .slice A1976 y1975.Blocks.length k1976, .int .u32 y1975.Stamp] 56, cellsA b1967 [.int .i64 y1966.Count, .int .i64 y1966.Type_, .string y1966.Body] 27, R_feed_Feedback b10 x1318, slA 27 e_api_Part A6 k6 y5.1, cellsA b3 [.slice none 0 0, .slice none 0 0] 33] ++ F)) [1] (by kernel_rfl))
              exact ⟨G, hG, hw.eq (by kernel_rfl)⟩
            rintro G1980 hG1980
            refine rn_text ?_
            refine ro_q 2 [] [1, 4, 8, 9, 29, 30, 31, 48, 49] [(1, I (mn (mx a2 0) 1125899906842624)), (4, .p 0 0), (8, .p 1 0), (9, I x1316), (29, .v (.slice A6 y5.1.length k6)), (30, I (y5.1.length : Int)), (31, I x1317), (48, .v (.agg #[.int .u32 y1975.Sender, .slice A1976 y1975.Blocks.length k1976, .int .u32 y1975.Stamp])), (49, I (mn (mx a2 0) 1125899906842624))] [] (by kernel_rfl) trivial ?_
            refine bind_elim hres fun y1982 hy1982 hres => ?_
            refine ro_op (by kernel_rfl) (op_call (f := 13) (xs := #[(.tmp 8), (.tmp 48), (.tmp 49)]) (ats := #[33, 56, 2]) (d := (some 50)) (args := #[.pointer (some ⟨b10, 0, none⟩), .agg #[.int .u32 y1975.Sender, .slice A1976 y1975.Blocks.length k1976, .int .u32 y1975.Stamp], .int .i64 (mn (mx a2 0) 1125899906842624)]) (by kernel_rfl) (by kernel_rfl) (by kernel_rfl) (by kernel_rfl) fun w hw => (feed_Feedback_first_ok (F := [slA 87 n_api_Block.E A1976 k1976 G1980, kids n_api_Block G1980, cellsA b1977 [.int .u32 y1975.Sender, .slice A1976 y1975.Blocks.length k1976, .int .u32 y1975.Stamp] 56, cellsA b1967 [.int .i64 y1966.Count, .int .i64 y1966.Type_, .string y1966.Body] 27, slA 27 e_api_Part A6 k6 y5.1, cellsA b3 [.slice none 0 0, .slice none 0 0] 33] ++ F) hy1982 hG1980 (row_at (U := 87) (E := n_api_Block.E) (A := A1976) (c := k1976) (L := G1980) 0 (by kernel_rfl)) (n_api_Block.own 1 (by kernel_rfl)) (hw.sel [4] (by kernel_rfl : _ = [R_feed_Feedback b10 x1318] ++ ([slA 87 n_api_Block.E A1976 k1976 G1980, kids n_api_Block G1980, cellsA b1977 [.int .u32 y1975.Sender, .slice A1976 y1975.Blocks.length k1976, .int .u32 y1975.Stamp] 56, cellsA b1967 [.int .i64 y1966.Count, .int .i64 y1966.Type_, .string y1966.Body] 27, slA 27 e_api_Part A6 k6 y5.1, cellsA b3 [.slice none 0 0, .slice none 0 0] 33] ++ F)))).mono ?_)
            rintro _ w1 ⟨rfl, hw1⟩
            refine ⟨_, [b3, b10, b1967, b1977], [.a (R_feed_Feedback b10 y1982), .a (slA 87 n_api_Block.E A1976 k1976 G1980), .a (kids n_api_Block G1980), .c 3 [U .u32 y1975.Sender, .v (.slice A1976 y1975.Blocks.length k1976), U .u32 y1975.Stamp] 56, .c 2 [I y1966.Count, I y1966.Type_, S y1966.Body] 27, .a (slA 27 e_api_Part A6 k6 y5.1), .c 0 [.v (.slice none 0 0), .v (.slice none 0 0)] 33], _, rfl, hw1.eq (by kernel_rfl), rfl, mt_same, ro_fin ?_⟩
            refine ro_end (by kernel_rfl) (fin_next ?_)
            refine rn_q [] [1, 4, 8, 9, 29, 30, 31] [(1, I (mn (mx a2 0) 1125899906842624)), (4, .p 0 0), (8, .p 1 0), (9, I (w64 (x1316 + 1))), (29, .v (.slice A6 y5.1.length k6)), (30, I (y5.1.length : Int)), (31, I x1317)] [] (by kernel_rfl) trivial (fin_block (fin_block (fin_next ?_)))
            refine rn_q [] [1, 4, 8, 9, 29, 30, 31] [(1, I (mn (mx a2 0) 1125899906842624)), (4, .p 0 0), (8, .p 1 0), (9, I (w64 (x1316 + 1))), (29, .v (.slice A6 y5.1.length k6)), (30, I (y5.1.length : Int)), (31, I (w64 (x1317 + 1)))] [] (by kernel_rfl) trivial (fin_then ?_)
            refine fin_fold [.a (slN 87 n_api_Block A1976 k1976 y1975.Blocks), .a (R_feed_Feedback b10 y1982), .c 3 [U .u32 y1975.Sender, .v (.slice A1976 y1975.Blocks.length k1976), U .u32 y1975.Stamp] 56, .c 2 [I y1966.Count, I y1966.Type_, S y1966.Body] 27, .a (slA 27 e_api_Part A6 k6 y5.1), .c 0 [.v (.slice none 0 0), .v (.slice none 0 0)] 33] (fun w hw => (slN_in hG1980 _ _ _ (hw.sel (L' := [slA 87 n_api_Block.E A1976 k1976 G1980, kids n_api_Block G1980] ++ ([R_feed_Feedback b10 y1982, cellsA b1977 [.int .u32 y1975.Sender, .slice A1976 y1975.Blocks.length k1976, .int .u32 y1975.Stamp] 56, cellsA b1967 [.int .i64 y1966.Count, .int .i64 y1966.Type_, .string y1966.Body] 27, slA 27 e_api_Part A6 k6 y5.1, cellsA b3 [.slice none 0 0, .slice none 0 0] 33] ++ F)) [1, 1] (by kernel_rfl))).eq (by kernel_rfl)) ?_
            refine fin_loop (w64 (x1316 + 1), w64 (x1317 + 1), y1982) hres [1, 3, 3] [slN 87 n_api_Block A1976 k1976 y1975.Blocks, cellsA b1977 [.int .u32 y1975.Sender, .slice A1976 y1975.Blocks.length k1976, .int .u32 y1975.Stamp] 56, cellsA b1967 [.int .i64 y1966.Count, .int .i64 y1966.Type_, .string y1966.Body] 27] (by kernel_rfl) (by kernel_rfl) (by kernel_rfl)
          · rw [hz1974] at hres
            dsimp only at hres
            refine rn_exP (V := Option Addr × Nat × Option Addr × Nat) (fun v => p1970 = .iface 58 (.agg #[.int .u32 y1983.Sender, .int .u32 y1983.Media, .int .i64 y1983.First, .int .i64 y1983.Base, .int .i64 y1983.Count, .slice v.1 y1983.Status.length v.2.1, .slice v.2.2.1 y1983.Deltas.length v.2.2.2])) (fun v => ⟨[b3, b10, b1967], [(1, I (mn (mx a2 0) 1125899906842624)), (4, .p 0 0), (8, .p 1 0), (9, I x1316), (29, .v (.slice A6 y5.1.length k6)), (30, I (y5.1.length : Int)), (31, I x1317), (44, .v (.iface 58 (.agg #[.int .u32 y1983.Sender, .int .u32 y1983.Media, .int .i64 y1983.First, .int .i64 y1983.Base, .int .i64 y1983.Count, .slice v.1 y1983.Status.length v.2.1, .slice v.2.2.1 y1983.Deltas.length v.2.2.2])))], [.a (slA 3 (eI .i64) v.1 v.2.1 y1983.Status), .a (slA 3 (eI .i64) v.2.2.1 v.2.2.2 y1983.Deltas), .c 2 [I y1966.Count, I y1966.Type_, S y1966.Body] 27, .a (R_feed_Feedback b10 x1318), .a (slA 27 e_api_Part A6 k6 y5.1), .c 0 [.v (.slice none 0 0), .v (.slice none 0 0)] 33]⟩) (fun w hw => ?_) (fun _ => by kernel_rfl) (fun _ hp => by subst hp; kernel_rfl) ?_
            · obtain ⟨A1984, k1984, A1985, k1985, hp, hw⟩ := IFA_feed_told.out1 ((hw.sel (L' := IFA_feed_told p1970 y1969.1 :: ([cellsA b1967 [.int .i64 y1966.Count, .int .i64 y1966.Type_, .string y1966.Body] 27, R_feed_Feedback b10 x1318, slA 27 e_api_Part A6 k6 y5.1, cellsA b3 [.slice none 0 0, .slice none 0 0] 33] ++ F)) [0] (by kernel_rfl)).eq (by rw [hz1974]))
              exact ⟨(A1984, k1984, A1985, k1985), hp, hw.eq (by kernel_rfl)⟩
            rintro ⟨A1984, k1984, A1985, k1985⟩ rfl
            refine rn_q [] [1, 4, 8, 9, 29, 30, 31, 44, 46, 47] [(1, I (mn (mx a2 0) 1125899906842624)), (4, .p 0 0), (8, .p 1 0), (9, I x1316), (29, .v (.slice A6 y5.1.length k6)), (30, I (y5.1.length : Int)), (31, I x1317), (44, .v (.iface 58 (.agg #[.int .u32 y1983.Sender, .int .u32 y1983.Media, .int .i64 y1983.First, .int .i64 y1983.Base, .int .i64 y1983.Count, .slice A1984 y1983.Status.length k1984, .slice A1985 y1983.Deltas.length k1985]))), (46, B false), (47, .v (.agg #[.int .u32 0, .slice none 0 0, .int .u32 0]))] [] (by kernel_rfl) trivial (fin_next ?_)
            refine rn_cond_f (by kernel_rfl) ?_
            refine rn_seq ?_
            refine rn_q [] [1, 4, 8, 9, 29, 30, 31, 44, 54, 55] [(1, I (mn (mx a2 0) 1125899906842624)), (4, .p 0 0), (8, .p 1 0), (9, I x1316), (29, .v (.slice A6 y5.1.length k6)), (30, I (y5.1.length : Int)), (31, I x1317), (44, .v (.iface 58 (.agg #[.int .u32 y1983.Sender, .int .u32 y1983.Media, .int .i64 y1983.First, .int .i64 y1983.Base, .int .i64 y1983.Count, .slice A1984 y1983.Status.length k1984, .slice A1985 y1983.Deltas.length k1985]))), (54, B true), (55, .v (.agg #[.int .u32 y1983.Sender, .int .u32 y1983.Media, .int .i64 y1983.First, .int .i64 y1983.Base, .int .i64 y1983.Count, .slice A1984 y1983.Status.length k1984, .slice A1985 y1983.Deltas.length k1985]))] [] (by kernel_rfl) trivial (fin_next ?_)
            refine rn_cond_t (by kernel_rfl) ?_
            refine rn_seq ?_
            refine rn_text ?_
            refine ro_op (by kernel_rfl) (op_alloc 58 15 (.agg #[.int .u32 0, .int .u32 0, .int .i64 0, .int .i64 0, .int .i64 0, .slice none 0 0, .slice none 0 0]) [U .u32 0, U .u32 0, I 0, I 0, I 0, .v (.slice none 0 0), .v (.slice none 0 0)] (fun b1986 => [b3, b10, b1967, b1986]) (fun b1986 => [.c 3 [U .u32 0, U .u32 0, I 0, I 0, I 0, .v (.slice none 0 0), .v (.slice none 0 0)] 58, .a (slA 3 (eI .i64) A1984 k1984 y1983.Status), .a (slA 3 (eI .i64) A1985 k1985 y1983.Deltas), .c 2 [I y1966.Count, I y1966.Type_, S y1966.Body] 27, .a (R_feed_Feedback b10 x1318), .a (slA 27 e_api_Part A6 k6 y5.1), .c 0 [.v (.slice none 0 0), .v (.slice none 0 0)] 33]) (by kernel_rfl) (by kernel_rfl) (by kernel_rfl) (by kernel_rfl) 3 (fun _ => by kernel_rfl) (fun _ => mt_bs (by kernel_rfl)) (fun _ => by kernel_rfl) (fun b1986 => ro_fin ?_))
            refine ro_op (by kernel_rfl) (op_store 58 (.tmp 15) (.tmp 55) 3 0 (.v (.agg #[.int .u32 y1983.Sender, .int .u32 y1983.Media, .int .i64 y1983.First, .int .i64 y1983.Base, .int .i64 y1983.Count, .slice A1984 y1983.Status.length k1984, .slice A1985 y1983.Deltas.length k1985])) [.c 3 [U .u32 y1983.Sender, U .u32 y1983.Media, I y1983.First, I y1983.Base, I y1983.Count, .v (.slice A1984 y1983.Status.length k1984), .v (.slice A1985 y1983.Deltas.length k1985)] 58, .a (slA 3 (eI .i64) A1984 k1984 y1983.Status), .a (slA 3 (eI .i64) A1985 k1985 y1983.Deltas), .c 2 [I y1966.Count, I y1966.Type_, S y1966.Body] 27, .a (R_feed_Feedback b10 x1318), .a (slA 27 e_api_Part A6 k6 y5.1), .c 0 [.v (.slice none 0 0), .v (.slice none 0 0)] 33] (by kernel_rfl) (by kernel_rfl) (by kernel_rfl) (by kernel_rfl) (ro_fin ?_))
            refine ro_end (by kernel_rfl) (fin_next ?_)
            refine rn_seq ?_
            refine rn_text ?_
            refine ro_q 2 [] [1, 4, 8, 9, 29, 30, 31, 56, 57] [(1, I (mn (mx a2 0) 1125899906842624)), (4, .p 0 0), (8, .p 1 0), (9, I x1316), (29, .v (.slice A6 y5.1.length k6)), (30, I (y5.1.length : Int)), (31, I x1317), (56, .v (.agg #[.int .u32 y1983.Sender, .int .u32 y1983.Media, .int .i64 y1983.First, .int .i64 y1983.Base, .int .i64 y1983.Count, .slice A1984 y1983.Status.length k1984, .slice A1985 y1983.Deltas.length k1985])), (57, I (mn (mx a2 0) 1125899906842624))] [] (by kernel_rfl) trivial ?_
            refine bind_elim hres fun y1988 hy1988 hres => ?_
            refine ro_op (by kernel_rfl) (op_call (f := 14) (xs := #[(.tmp 8), (.tmp 56), (.tmp 57)]) (ats := #[33, 58, 2]) (d := (some 58)) (args := #[.pointer (some ⟨b10, 0, none⟩), .agg #[.int .u32 y1983.Sender, .int .u32 y1983.Media, .int .i64 y1983.First, .int .i64 y1983.Base, .int .i64 y1983.Count, .slice A1984 y1983.Status.length k1984, .slice A1985 y1983.Deltas.length k1985], .int .i64 (mn (mx a2 0) 1125899906842624)]) (by kernel_rfl) (by kernel_rfl) (by kernel_rfl) (by kernel_rfl) fun w hw => (feed_Feedback_second_ok (F := [cellsA b1986 [.int .u32 y1983.Sender, .int .u32 y1983.Media, .int .i64 y1983.First, .int .i64 y1983.Base, .int .i64 y1983.Count, .slice A1984 y1983.Status.length k1984, .slice A1985 y1983.Deltas.length k1985] 58, slA 3 (eI .i64) A1984 k1984 y1983.Status, slA 3 (eI .i64) A1985 k1985 y1983.Deltas, cellsA b1967 [.int .i64 y1966.Count, .int .i64 y1966.Type_, .string y1966.Body] 27, slA 27 e_api_Part A6 k6 y5.1, cellsA b3 [.slice none 0 0, .slice none 0 0] 33] ++ F) hy1988 (row_at (U := 3) (E := (eI .i64)) (A := A1984) (c := k1984) (L := y1983.Status) 1 (by kernel_rfl)) (row_at (U := 3) (E := (eI .i64)) (A := A1985) (c := k1985) (L := y1983.Deltas) 2 (by kernel_rfl)) (hw.sel [4] (by kernel_rfl : _ = [R_feed_Feedback b10 x1318] ++ ([cellsA b1986 [.int .u32 y1983.Sender, .int .u32 y1983.Media, .int .i64 y1983.First, .int .i64 y1983.Base, .int .i64 y1983.Count, .slice A1984 y1983.Status.length k1984, .slice A1985 y1983.Deltas.length k1985] 58, slA 3 (eI .i64) A1984 k1984 y1983.Status, slA 3 (eI .i64) A1985 k1985 y1983.Deltas, cellsA b1967 [.int .i64 y1966.Count, .int .i64 y1966.Type_, .string y1966.Body] 27, slA 27 e_api_Part A6 k6 y5.1, cellsA b3 [.slice none 0 0, .slice none 0 0] 33] ++ F)))).mono ?_)
            rintro _ w1 ⟨rfl, hw1⟩
            refine ⟨_, [b3, b10, b1967, b1986], [.a (R_feed_Feedback b10 y1988), .c 3 [U .u32 y1983.Sender, U .u32 y1983.Media, I y1983.First, I y1983.Base, I y1983.Count, .v (.slice A1984 y1983.Status.length k1984), .v (.slice A1985 y1983.Deltas.length k1985)] 58, .a (slA 3 (eI .i64) A1984 k1984 y1983.Status), .a (slA 3 (eI .i64) A1985 k1985 y1983.Deltas), .c 2 [I y1966.Count, I y1966.Type_, S y1966.Body] 27, .a (slA 27 e_api_Part A6 k6 y5.1), .c 0 [.v (.slice none 0 0), .v (.slice none 0 0)] 33], _, rfl, hw1.eq (by kernel_rfl), rfl, mt_same, ro_fin ?_⟩
            refine ro_end (by kernel_rfl) (fin_next ?_)
            refine rn_q [] [1, 4, 8, 9, 29, 30, 31] [(1, I (mn (mx a2 0) 1125899906842624)), (4, .p 0 0), (8, .p 1 0), (9, I (w64 (x1316 + 1))), (29, .v (.slice A6 y5.1.length k6)), (30, I (y5.1.length : Int)), (31, I x1317)] [] (by kernel_rfl) trivial (fin_block (fin_block (fin_next ?_)))
            refine rn_q [] [1, 4, 8, 9, 29, 30, 31] [(1, I (mn (mx a2 0) 1125899906842624)), (4, .p 0 0), (8, .p 1 0), (9, I (w64 (x1316 + 1))), (29, .v (.slice A6 y5.1.length k6)), (30, I (y5.1.length : Int)), (31, I (w64 (x1317 + 1)))] [] (by kernel_rfl) trivial (fin_then ?_)
            refine fin_loop (w64 (x1316 + 1), w64 (x1317 + 1), y1988) hres [0, 4, 4] [cellsA b1986 [.int .u32 y1983.Sender, .int .u32 y1983.Media, .int .i64 y1983.First, .int .i64 y1983.Base, .int .i64 y1983.Count, .slice A1984 y1983.Status.length k1984, .slice A1985 y1983.Deltas.length k1985] 58, slA 3 (eI .i64) A1984 k1984 y1983.Status, slA 3 (eI .i64) A1985 k1985 y1983.Deltas, cellsA b1967 [.int .i64 y1966.Count, .int .i64 y1966.Type_, .string y1966.Body] 27] (by kernel_rfl) (by kernel_rfl) (by kernel_rfl)
          · rw [hz1974] at hres
            dsimp only at hres
            refine rn_exP (V := Option Addr × Nat) (fun v => p1970 = .iface 61 (.agg #[.int .u32 y1989.Sender, .int .u32 y1989.Media, .slice v.1 y1989.Lost.length v.2])) (fun v => ⟨[b3, b10, b1967], [(1, I (mn (mx a2 0) 1125899906842624)), (4, .p 0 0), (8, .p 1 0), (9, I x1316), (29, .v (.slice A6 y5.1.length k6)), (30, I (y5.1.length : Int)), (31, I x1317), (44, .v (.iface 61 (.agg #[.int .u32 y1989.Sender, .int .u32 y1989.Media, .slice v.1 y1989.Lost.length v.2])))], [.a (slA 3 (eI .i64) v.1 v.2 y1989.Lost), .c 2 [I y1966.Count, I y1966.Type_, S y1966.Body] 27, .a (R_feed_Feedback b10 x1318), .a (slA 27 e_api_Part A6 k6 y5.1), .c 0 [.v (.slice none 0 0), .v (.slice none 0 0)] 33]⟩) (fun w hw => ?_) (fun _ => by kernel_rfl) (fun _ hp => by subst hp; kernel_rfl) ?_
            · obtain ⟨A1990, k1990, hp, hw⟩ := IFA_feed_told.out2 ((hw.sel (L' := IFA_feed_told p1970 y1969.1 :: ([cellsA b1967 [.int .i64 y1966.Count, .int .i64 y1966.Type_, .string y1966.Body] 27, R_feed_Feedback b10 x1318, slA 27 e_api_Part A6 k6 y5.1, cellsA b3 [.slice none 0 0, .slice none 0 0] 33] ++ F)) [0] (by kernel_rfl)).eq (by rw [hz1974]))
              exact ⟨(A1990, k1990), hp, hw.eq (by kernel_rfl)⟩
            rintro ⟨A1990, k1990⟩ rfl
            refine rn_q [] [1, 4, 8, 9, 29, 30, 31, 44, 46, 47] [(1, I (mn (mx a2 0) 1125899906842624)), (4, .p 0 0), (8, .p 1 0), (9, I x1316), (29, .v (.slice A6 y5.1.length k6)), (30, I (y5.1.length : Int)), (31, I x1317), (44, .v (.iface 61 (.agg #[.int .u32 y1989.Sender, .int .u32 y1989.Media, .slice A1990 y1989.Lost.length k1990]))), (46, B false), (47, .v (.agg #[.int .u32 0, .slice none 0 0, .int .u32 0]))] [] (by kernel_rfl) trivial (fin_next ?_)
            refine rn_cond_f (by kernel_rfl) ?_
            refine rn_seq ?_
            refine rn_q [] [1, 4, 8, 9, 29, 30, 31, 44, 54, 55] [(1, I (mn (mx a2 0) 1125899906842624)), (4, .p 0 0), (8, .p 1 0), (9, I x1316), (29, .v (.slice A6 y5.1.length k6)), (30, I (y5.1.length : Int)), (31, I x1317), (44, .v (.iface 61 (.agg #[.int .u32 y1989.Sender, .int .u32 y1989.Media, .slice A1990 y1989.Lost.length k1990]))), (54, B false), (55, .v (.agg #[.int .u32 0, .int .u32 0, .int .i64 0, .int .i64 0, .int .i64 0, .slice none 0 0, .slice none 0 0]))] [] (by kernel_rfl) trivial (fin_next ?_)
            refine rn_cond_f (by kernel_rfl) ?_
            refine rn_seq ?_
            refine rn_q [] [1, 4, 8, 9, 29, 30, 31, 62, 63] [(1, I (mn (mx a2 0) 1125899906842624)), (4, .p 0 0), (8, .p 1 0), (9, I x1316), (29, .v (.slice A6 y5.1.length k6)), (30, I (y5.1.length : Int)), (31, I x1317), (62, B true), (63, .v (.agg #[.int .u32 y1989.Sender, .int .u32 y1989.Media, .slice A1990 y1989.Lost.length k1990]))] [] (by kernel_rfl) trivial (fin_next ?_)
            refine rn_cond_t (by kernel_rfl) ?_
            refine rn_seq ?_
            refine rn_text ?_
            refine ro_op (by kernel_rfl) (op_alloc 61 16 (.agg #[.int .u32 0, .int .u32 0, .slice none 0 0]) [U .u32 0, U .u32 0, .v (.slice none 0 0)] (fun b1991 => [b3, b10, b1967, b1991]) (fun b1991 => [.c 3 [U .u32 0, U .u32 0, .v (.slice none 0 0)] 61, .a (slA 3 (eI .i64) A1990 k1990 y1989.Lost), .c 2 [I y1966.Count, I y1966.Type_, S y1966.Body] 27, .a (R_feed_Feedback b10 x1318), .a (slA 27 e_api_Part A6 k6 y5.1), .c 0 [.v (.slice none 0 0), .v (.slice none 0 0)] 33]) (by kernel_rfl) (by kernel_rfl) (by kernel_rfl) (by kernel_rfl) 3 (fun _ => by kernel_rfl) (fun _ => mt_bs (by kernel_rfl)) (fun _ => by kernel_rfl) (fun b1991 => ro_fin ?_))
            refine ro_op (by kernel_rfl) (op_store 61 (.tmp 16) (.tmp 63) 3 0 (.v (.agg #[.int .u32 y1989.Sender, .int .u32 y1989.Media, .slice A1990 y1989.Lost.length k1990])) [.c 3 [U .u32 y1989.Sender, U .u32 y1989.Media, .v (.slice A1990 y1989.Lost.length k1990)] 61, .a (slA 3 (eI .i64) A1990 k1990 y1989.Lost), .c 2 [I y1966.Count, I y1966.Type_, S y1966.Body] 27, .a (R_feed_Feedback b10 x1318), .a (slA 27 e_api_Part A6 k6 y5.1), .c 0 [.v (.slice none 0 0), .v (.slice none 0 0)] 33] (by kernel_rfl) (by kernel_rfl) (by kernel_rfl) (by kernel_rfl) (ro_fin ?_))
            refine ro_end (by kernel_rfl) (fin_next ?_)
            refine rn_seq ?_
            refine rn_ex (V := Option Addr × Nat × Option Addr × Nat) (sv := fun v => ⟨[b3, b10, b1967, b1991], [(1, I (mn (mx a2 0) 1125899906842624)), (4, .p 0 0), (8, .p 1 0), (9, I x1316), (16, .p 3 0), (29, .v (.slice A6 y5.1.length k6)), (30, I (y5.1.length : Int)), (31, I x1317), (62, B true), (63, .v (.agg #[.int .u32 y1989.Sender, .int .u32 y1989.Media, .slice A1990 y1989.Lost.length k1990]))], [.c 1 [.v (.slice v.1 x1318.Reports.length v.2.1), .v (.slice v.2.2.1 x1318.Again.length v.2.2.2)] 33, .a (slA 45 e_api_Report v.1 v.2.1 x1318.Reports), .a (slA 3 (eI .i64) v.2.2.1 v.2.2.2 x1318.Again), .c 3 [U .u32 y1989.Sender, U .u32 y1989.Media, .v (.slice A1990 y1989.Lost.length k1990)] 61, .a (slA 3 (eI .i64) A1990 k1990 y1989.Lost), .c 2 [I y1966.Count, I y1966.Type_, S y1966.Body] 27, .a (slA 27 e_api_Part A6 k6 y5.1), .c 0 [.v (.slice none 0 0), .v (.slice none 0 0)] 33]⟩) (fun w hw => ?_) (fun _ => by kernel_rfl) (fun _ => by kernel_rfl) ?_
            · obtain ⟨A1992, k1992, A1993, k1993, hw⟩ := R_feed_Feedback.out (hw.sel (L' := R_feed_Feedback b10 x1318 :: ([cellsA b1991 [.int .u32 y1989.Sender, .int .u32 y1989.Media, .slice A1990 y1989.Lost.length k1990] 61, slA 3 (eI .i64) A1990 k1990 y1989.Lost, cellsA b1967 [.int .i64 y1966.Count, .int .i64 y1966.Type_, .string y1966.Body] 27, slA 27 e_api_Part A6 k6 y5.1, cellsA b3 [.slice none 0 0, .slice none 0 0] 33] ++ F)) [3] (by kernel_rfl))
              exact ⟨(A1992, k1992, A1993, k1993), hw.eq (by kernel_rfl)⟩
            rintro ⟨A1992, k1992, A1993, k1993⟩
            refine rn_text ?_
            refine ro_q 4 [] [1, 4, 8, 9, 29, 30, 31, 65, 67] [(1, I (mn (mx a2 0) 1125899906842624)), (4, .p 0 0), (8, .p 1 0), (9, I x1316), (29, .v (.slice A6 y5.1.length k6)), (30, I (y5.1.length : Int)), (31, I x1317), (65, .v (.slice A1993 x1318.Again.length k1993)), (67, .v (.slice A1990 y1989.Lost.length k1990))] [] (by kernel_rfl) trivial ?_
            refine bind_elim hres fun y1994 hy1994 hres => ?_
            refine ro_op (by kernel_rfl) (op_append (E := (eI .i64)) (lim := 17592186044416) 31 31 3 (.tmp 65) (.tmp 67) 68 A1993 (.slice A1990 y1989.Lost.length k1990) k1993 x1318.Again y1989.Lost ((Try.prog.info? 3).get rfl) (((Try.prog.info? 3).get rfl).zero.get rfl) 2 [.c 1 [.v (.slice A1992 x1318.Reports.length k1992), .v (.slice A1993 x1318.Again.length k1993)] 33, .a (slA 45 e_api_Report A1992 k1992 x1318.Reports), .c 3 [U .u32 y1989.Sender, U .u32 y1989.Media, .v (.slice A1990 y1989.Lost.length k1990)] 61, .a (slA 3 (eI .i64) A1990 k1990 y1989.Lost), .c 2 [I y1966.Count, I y1966.Type_, S y1966.Body] 27, .a (slA 27 e_api_Part A6 k6 y5.1), .c 0 [.v (.slice none 0 0), .v (.slice none 0 0)] 33] (by kernel_rfl) (by kernel_rfl) (by kernel_rfl) (by kernel_rfl) (by kernel_rfl) (by kernel_rfl) (by kernel_rfl) (by kernel_rfl) (by kernel_rfl) (Nat.le_of_ble_eq_true (by kernel_rfl)) (by decide) hy1994 (by kernel_rfl) (ap_sl (e := 3) (E := (eI .i64)) (B := A1990) (c := k1990) (M := y1989.Lost) (by kernel_rfl) (by kernel_rfl) (row_at (U := 3) (E := (eI .i64)) (A := A1990) (c := k1990) (L := y1989.Lost) 4 (by kernel_rfl))) (fun A1995 k1995 => ro_fin ?_))
            refine ro_q 1 [] [1, 4, 8, 9, 29, 30, 31, 68, 69] [(1, I (mn (mx a2 0) 1125899906842624)), (4, .p 0 0), (8, .p 1 0), (9, I x1316), (29, .v (.slice A6 y5.1.length k6)), (30, I (y5.1.length : Int)), (31, I x1317), (68, .v (.slice A1995 y1994.length k1995)), (69, .p 1 1)] [] (by kernel_rfl) trivial ?_
            refine ro_op (by kernel_rfl) (op_store 31 (.tmp 69) (.tmp 68) 1 1 (.v (.slice A1995 y1994.length k1995)) [.a (slA 3 (eI .i64) A1995 k1995 y1994), .c 1 [.v (.slice A1992 x1318.Reports.length k1992), .v (.slice A1995 y1994.length k1995)] 33, .a (slA 45 e_api_Report A1992 k1992 x1318.Reports), .c 3 [U .u32 y1989.Sender, U .u32 y1989.Media, .v (.slice A1990 y1989.Lost.length k1990)] 61, .a (slA 3 (eI .i64) A1990 k1990 y1989.Lost), .c 2 [I y1966.Count, I y1966.Type_, S y1966.Body] 27, .a (slA 27 e_api_Part A6 k6 y5.1), .c 0 [.v (.slice none 0 0), .v (.slice none 0 0)] 33] (by kernel_rfl) (by kernel_rfl) (by kernel_rfl) (by kernel_rfl) (ro_fin ?_))
            refine ro_end (by kernel_rfl) (fin_next ?_)
            refine rn_q [] [1, 4, 8, 9, 29, 30, 31] [(1, I (mn (mx a2 0) 1125899906842624)), (4, .p 0 0), (8, .p 1 0), (9, I (w64 (x1316 + 1))), (29, .v (.slice A6 y5.1.length k6)), (30, I (y5.1.length : Int)), (31, I x1317)] [] (by kernel_rfl) trivial (fin_block (fin_block (fin_next ?_)))
            refine rn_q [] [1, 4, 8, 9, 29, 30, 31] [(1, I (mn (mx a2 0) 1125899906842624)), (4, .p 0 0), (8, .p 1 0), (9, I (w64 (x1316 + 1))), (29, .v (.slice A6 y5.1.length k6)), (30, I (y5.1.length : Int)), (31, I (w64 (x1317 + 1)))] [] (by kernel_rfl) trivial (fin_then ?_)
            refine fin_fold [.a (R_feed_Feedback b10 (⟨x1318.Reports, y1994⟩ : S_feed_Feedback)), .c 3 [U .u32 y1989.Sender, U .u32 y1989.Media, .v (.slice A1990 y1989.Lost.length k1990)] 61, .a (slA 3 (eI .i64) A1990 k1990 y1989.Lost), .c 2 [I y1966.Count, I y1966.Type_, S y1966.Body] 27, .a (slA 27 e_api_Part A6 k6 y5.1), .c 0 [.v (.slice none 0 0), .v (.slice none 0 0)] 33] (fun w hw => (R_feed_Feedback.ent (b := b10) (x := (⟨x1318.Reports, y1994⟩ : S_feed_Feedback)) _ _ _ (hw.sel (L' := R_feed_Feedback.b b10 (⟨x1318.Reports, y1994⟩ : S_feed_Feedback) A1992 k1992 A1995 k1995 ++ ([cellsA b1991 [.int .u32 y1989.Sender, .int .u32 y1989.Media, .slice A1990 y1989.Lost.length k1990] 61, slA 3 (eI .i64) A1990 k1990 y1989.Lost, cellsA b1967 [.int .i64 y1966.Count, .int .i64 y1966.Type_, .string y1966.Body] 27, slA 27 e_api_Part A6 k6 y5.1, cellsA b3 [.slice none 0 0, .slice none 0 0] 33] ++ F)) [1, 1, 0] (by kernel_rfl))).eq (by kernel_rfl)) ?_
            refine fin_loop (w64 (x1316 + 1), w64 (x1317 + 1), (⟨x1318.Reports, y1994⟩ : S_feed_Feedback)) hres [0, 3, 3] [cellsA b1991 [.int .u32 y1989.Sender, .int .u32 y1989.Media, .slice A1990 y1989.Lost.length k1990] 61, slA 3 (eI .i64) A1990 k1990 y1989.Lost, cellsA b1967 [.int .i64 y1966.Count, .int .i64 y1966.Type_, .string y1966.Body] 27] (by kernel_rfl) (by kernel_rfl) (by kernel_rfl)
      · rw [if_neg (of_decide_eq_false c1965)] at hres
        refine rn_exit (fin_then_exit (fin_then_exit (fin_block_exit (fin_next ?_))))
        refine rn_join (V := Unit) (J := fun v => feed_Read.j2609 x1318 = some r) (sv := fun v => ⟨[b3, b10], [(4, .p 0 0), (8, .p 1 0)], [.a (R_feed_Feedback b10 x1318), .c 0 [.v (.slice none 0 0), .v (.slice none 0 0)] 33]⟩) ?_ ?_
        · refine rn_block ?_
          refine rn_seq ?_
          refine rn_q [] [4, 8, 73] [(4, .p 0 0), (8, .p 1 0), (73, B (x1316 == 0))] [] (by kernel_rfl) trivial (fin_next ?_)
          refine rn_cond (x1316 == 0) (by kernel_rfl) (fun c1996 => ?_) (fun c1996 => ?_)
          · rw [if_pos (eq_t c1996)] at hres
            refine rn_seq ?_
            refine rn_text ?_
            refine ro_q 1 [] [4, 76] [(4, .p 0 0), (76, .v (.agg #[.slice none 0 0, .slice none 0 0]))] [] (by kernel_rfl) trivial ?_
            refine ro_op (by kernel_rfl) (op_store 33 (.tmp 4) (.tmp 76) 0 0 (.v (.agg #[.slice none 0 0, .slice none 0 0])) [.a (R_feed_Feedback b10 x1318), .a (slA 27 e_api_Part A6 k6 y5.1), .c 0 [.v (.slice none 0 0), .v (.slice none 0 0)] 33] (by kernel_rfl) (by kernel_rfl) (by kernel_rfl) (by kernel_rfl) (ro_fin ?_))
            refine ro_q 1 [] [4, 5] [(4, .p 0 0), (5, I 120)] [] (by kernel_rfl) trivial ?_
            refine ro_end (by kernel_rfl) (fin_next ?_)
            refine rn_ret (fin_block_ret (fin_then_ret ?_))
            refine fin_nil 45 e_api_Report ?_
            refine fin_nil 3 (eI .i64) ?_
            refine fin_ret [.agg #[.slice none 0 0, .slice none 0 0], .int .i64 120] (by kernel_rfl) fun w' hw' => ?_
            have hq := Option.some.inj hres
            subst hq
            exact ⟨none, 0, none, 0, rfl, hw'.take (L' := [slA 45 e_api_Report none 0 [], slA 3 (eI .i64) none 0 []]) [1, 0] [R_feed_Feedback b10 x1318, slA 27 e_api_Part A6 k6 y5.1, cellsA b3 [.slice none 0 0, .slice none 0 0] 33] (by kernel_rfl)⟩
          · rw [if_neg (eq_f c1996)] at hres
            refine rn_join (V := Bool) (J := fun v => feed_Read.j2306 x1318 v = some r) (sv := fun v => ⟨[b3, b10], [(4, .p 0 0), (8, .p 1 0), (77, B v)], [.a (R_feed_Feedback b10 x1318), .c 0 [.v (.slice none 0 0), .v (.slice none 0 0)] 33]⟩) ?_ ?_
            · refine rn_ex (V := Option Addr × Nat × Option Addr × Nat) (sv := fun v => ⟨[b3, b10], [(4, .p 0 0), (8, .p 1 0), (73, B (x1316 == 0))], [.c 1 [.v (.slice v.1 x1318.Reports.length v.2.1), .v (.slice v.2.2.1 x1318.Again.length v.2.2.2)] 33, .a (slA 45 e_api_Report v.1 v.2.1 x1318.Reports), .a (slA 3 (eI .i64) v.2.2.1 v.2.2.2 x1318.Again), .a (slA 27 e_api_Part A6 k6 y5.1), .c 0 [.v (.slice none 0 0), .v (.slice none 0 0)] 33]⟩) (fun w hw => ?_) (fun _ => by kernel_rfl) (fun _ => by kernel_rfl) ?_
              · obtain ⟨A1999, k1999, A2000, k2000, hw⟩ := R_feed_Feedback.out (hw.sel (L' := R_feed_Feedback b10 x1318 :: ([slA 27 e_api_Part A6 k6 y5.1, cellsA b3 [.slice none 0 0, .slice none 0 0] 33] ++ F)) [0] (by kernel_rfl))
                exact ⟨(A1999, k1999, A2000, k2000), hw.eq (by kernel_rfl)⟩
              rintro ⟨A1999, k1999, A2000, k2000⟩
              refine rn_text ?_
              refine ro_q 5 [] [4, 8, 82] [(4, .p 0 0), (8, .p 1 0), (82, B (decide (4096 < (x1318.Reports.length : Int))))] [] (by kernel_rfl) trivial ?_
              refine ro_split 82 (decide (4096 < (x1318.Reports.length : Int))) (by kernel_rfl) (fun c2001 => ?_) (fun c2001 => ?_)
              · rw [if_pos (of_decide_eq_true c2001)] at hres
                refine ro_q 6 [] [4, 8, 77] [(4, .p 0 0), (8, .p 1 0), (77, B true)] [] (by kernel_rfl) trivial ?_
                refine ro_end (by kernel_rfl) (fin_then ?_)
                refine fin_fold [.a (R_feed_Feedback b10 x1318), .a (slA 27 e_api_Part A6 k6 y5.1), .c 0 [.v (.slice none 0 0), .v (.slice none 0 0)] 33] (fun w hw => (R_feed_Feedback.ent (b := b10) (x := x1318) _ _ _ (hw.sel (L' := R_feed_Feedback.b b10 x1318 A1999 k1999 A2000 k2000 ++ ([slA 27 e_api_Part A6 k6 y5.1, cellsA b3 [.slice none 0 0, .slice none 0 0] 33] ++ F)) [0, 0, 0] (by kernel_rfl))).eq (by kernel_rfl)) ?_
                refine fin_join true hres [0, 1] [slA 27 e_api_Part A6 k6 y5.1] (by kernel_rfl) (by kernel_rfl) (by kernel_rfl)
              · rw [if_neg (of_decide_eq_false c2001)] at hres
                refine ro_q 6 [] [4, 8, 77] [(4, .p 0 0), (8, .p 1 0), (77, B (decide (4096 < (x1318.Again.length : Int))))] [] (by kernel_rfl) trivial ?_
                refine ro_end (by kernel_rfl) (fin_then ?_)
                refine fin_fold [.a (R_feed_Feedback b10 x1318), .a (slA 27 e_api_Part A6 k6 y5.1), .c 0 [.v (.slice none 0 0), .v (.slice none 0 0)] 33] (fun w hw => (R_feed_Feedback.ent (b := b10) (x := x1318) _ _ _ (hw.sel (L' := R_feed_Feedback.b b10 x1318 A1999 k1999 A2000 k2000 ++ ([slA 27 e_api_Part A6 k6 y5.1, cellsA b3 [.slice none 0 0, .slice none 0 0] 33] ++ F)) [0, 0, 0] (by kernel_rfl))).eq (by kernel_rfl)) ?_
                refine fin_join (decide (4096 < (x1318.Again.length : Int))) hres [0, 1] [slA 27 e_api_Part A6 k6 y5.1] (by kernel_rfl) (by kernel_rfl) (by kernel_rfl)
            · rintro j2302 hres
              unfold feed_Read.j2306 at hres
              refine rn_cond (j2302) (by kernel_rfl) (fun c2303 => ?_) (fun c2303 => ?_)
              · rw [if_pos (c2303)] at hres
                refine rn_seq ?_
                refine rn_text ?_
                refine ro_q 1 [] [4, 88] [(4, .p 0 0), (88, .v (.agg #[.slice none 0 0, .slice none 0 0]))] [] (by kernel_rfl) trivial ?_
                refine ro_op (by kernel_rfl) (op_store 33 (.tmp 4) (.tmp 88) 0 0 (.v (.agg #[.slice none 0 0, .slice none 0 0])) [.a (R_feed_Feedback b10 x1318), .c 0 [.v (.slice none 0 0), .v (.slice none 0 0)] 33] (by kernel_rfl) (by kernel_rfl) (by kernel_rfl) (by kernel_rfl) (ro_fin ?_))
                refine ro_q 1 [] [4, 5] [(4, .p 0 0), (5, I 3)] [] (by kernel_rfl) trivial ?_
                refine ro_end (by kernel_rfl) (fin_next ?_)
                refine rn_ret (fin_block_ret (fin_then_ret ?_))
                refine fin_nil 45 e_api_Report ?_
                refine fin_nil 3 (eI .i64) ?_
                refine fin_ret [.agg #[.slice none 0 0, .slice none 0 0], .int .i64 3] (by kernel_rfl) fun w' hw' => ?_
                have hq := Option.some.inj hres
                subst hq
                exact ⟨none, 0, none, 0, rfl, hw'.take (L' := [slA 45 e_api_Report none 0 [], slA 3 (eI .i64) none 0 []]) [1, 0] [R_feed_Feedback b10 x1318, cellsA b3 [.slice none 0 0, .slice none 0 0] 33] (by kernel_rfl)⟩
              · rw [if_neg (nt_of_f c2303)] at hres
                refine rn_skip (fin_block (fin_then ?_))
                refine fin_join () hres [0, 0] [] (by kernel_rfl) (by kernel_rfl) (by kernel_rfl)
        · rintro ⟨⟩ hres
          unfold feed_Read.j2609 at hres
          refine rn_seq ?_
          refine rn_ex (V := Option Addr × Nat × Option Addr × Nat) (sv := fun v => ⟨[b3, b10], [(4, .p 0 0), (8, .p 1 0)], [.c 1 [.v (.slice v.1 x1318.Reports.length v.2.1), .v (.slice v.2.2.1 x1318.Again.length v.2.2.2)] 33, .a (slA 45 e_api_Report v.1 v.2.1 x1318.Reports), .a (slA 3 (eI .i64) v.2.2.1 v.2.2.2 x1318.Again), .c 0 [.v (.slice none 0 0), .v (.slice none 0 0)] 33]⟩) (fun w hw => ?_) (fun _ => by kernel_rfl) (fun _ => by kernel_rfl) ?_
          · obtain ⟨A2607, k2607, A2608, k2608, hw⟩ := R_feed_Feedback.out (hw.sel (L' := R_feed_Feedback b10 x1318 :: ([cellsA b3 [.slice none 0 0, .slice none 0 0] 33] ++ F)) [0] (by kernel_rfl))
            exact ⟨(A2607, k2607, A2608, k2608), hw.eq (by kernel_rfl)⟩
          rintro ⟨A2607, k2607, A2608, k2608⟩
          refine rn_text ?_
          refine ro_q 1 [] [4, 89] [(4, .p 0 0), (89, .v (.agg #[.slice A2607 x1318.Reports.length k2607, .slice A2608 x1318.Again.length k2608]))] [] (by kernel_rfl) trivial ?_
          refine ro_op (by kernel_rfl) (op_store 33 (.tmp 4) (.tmp 89) 0 0 (.v (.agg #[.slice A2607 x1318.Reports.length k2607, .slice A2608 x1318.Again.length k2608])) [.c 1 [.v (.slice A2607 x1318.Reports.length k2607), .v (.slice A2608 x1318.Again.length k2608)] 33, .a (slA 45 e_api_Report A2607 k2607 x1318.Reports), .a (slA 3 (eI .i64) A2608 k2608 x1318.Again), .c 0 [.v (.slice A2607 x1318.Reports.length k2607), .v (.slice A2608 x1318.Again.length k2608)] 33] (by kernel_rfl) (by kernel_rfl) (by kernel_rfl) (by kernel_rfl) (ro_fin ?_))
          refine ro_q 1 [] [4, 5] [(4, .p 0 0), (5, I 0)] [] (by kernel_rfl) trivial ?_
          refine ro_end (by kernel_rfl) (fin_next ?_)
          refine rn_ret ?_
          refine fin_ret [.agg #[.slice A2607 x1318.Reports.length k2607, .slice A2608 x1318.Again.length k2608], .int .i64 0] (by kernel_rfl) fun w' hw' => ?_
          have hq := Option.some.inj hres
          subst hq
          exact ⟨A2607, k2607, A2608, k2608, rfl, hw'.take (L' := [slA 45 e_api_Report A2607 k2607 x1318.Reports, slA 3 (eI .i64) A2608 k2608 x1318.Again]) [1, 1] [cellsA b10 [.slice A2607 x1318.Reports.length k2607, .slice A2608 x1318.Again.length k2608] 33, cellsA b3 [.slice A2607 x1318.Reports.length k2607, .slice A2608 x1318.Again.length k2608] 33] (by kernel_rfl)⟩
/- 15 flywheel/flywheelref10.Good -/
def ref10_Good.j955 (r1 : Int → Int → Option Bool) (a1 : S_api_Twcc) (x313 : Int) (x314 : Int) (y637 : Int) : Option Bool :=
  (if y637 = 0 then r1 x313 (w64 (x314 + 1)) else (if (a1.Deltas.length : Int) ≤ x313 then some false else (if y637 = 1 then (idx a1.Deltas x313).bind fun y943 =>
  (if y943 < 0 then some false else (idx a1.Deltas x313).bind fun y945 =>
  (if 255 < y945 then some false else (idx a1.Deltas x313).bind fun y947 =>
  (if y947 < (-32768) then some false else (idx a1.Deltas x313).bind fun y949 =>
  (if 32767 < y949 then some false else r1 (w64 (x313 + 1)) (w64 (x314 + 1)))))) else (idx a1.Deltas x313).bind fun y951 =>
  (if y951 < (-32768) then some false else (idx a1.Deltas x313).bind fun y953 =>
  (if 32767 < y953 then some false else r1 (w64 (x313 + 1)) (w64 (x314 + 1)))))))
def ref10_Good.l635 (a1 : S_api_Twcc) : Nat → Int → Int → Option Bool
  | 0, _, _ => none
  | k + 1, x313, x314 =>
    (if x314 < (a1.Status.length : Int) then (idx a1.Status x314).bind fun y637 =>
  (if y637 < 0 then some false else (if 2 < y637 then some false else ref10_Good.j955 (ref10_Good.l635 a1 k) a1 x313 x314 y637)) else some (x313 == (a1.Deltas.length : Int)))
def ref10_Good.j956 (a1 : S_api_Twcc) : Option Bool :=
  ref10_Good.l635 a1 FUEL 0 0
def ref10_Good (a1 : S_api_Twcc) : Option Bool :=
  (if a1.First < 0 then some false else (if 65535 < a1.First then some false else (if a1.Base < (-8388608) then some false else (if 8388608 ≤ a1.Base then some false else (if a1.Count < 0 then some false else (if 255 < a1.Count then some false else (if (a1.Status.length : Int) < 1 then some false else (if 4096 < (a1.Status.length : Int) then some false else ref10_Good.j956 a1))))))))
theorem ref10_Good_ok {a1 : S_api_Twcc} {A2 : Option Addr} {k2 : Nat} {A3 : Option Addr} {k3 : Nat} {r : Bool} (hres : ref10_Good a1 = some r) {w0 w : World} {F : List Asn} (hA2 : RowT w0 F (eI .i64) A2 k2 a1.Status) (hA3 : RowT w0 F (eI .i64) A3 k3 a1.Deltas) (hw : SH w0 w (F)) :
    Calls Try.prog 15 #[.agg #[.int .u32 a1.Sender, .int .u32 a1.Media, .int .i64 a1.First, .int .i64 a1.Base, .int .i64 a1.Count, .slice A2 a1.Status.length k2, .slice A3 a1.Deltas.length k3]] w fun e w' => e = .returned (.bool r) ∧ SH w0 w' (F) := by
  refine fw_enter (n := 114) (bs := []) (env := [(0, .v (.agg #[.int .u32 a1.Sender, .int .u32 a1.Media, .int .i64 a1.First, .int .i64 a1.Base, .int .i64 a1.Count, .slice A2 a1.Status.length k2, .slice A3 a1.Deltas.length k3]))]) (H := []) (F := F) Try.func15 rfl (by kernel_rfl) (by kernel_rfl) (by kernel_rfl) (hw.eq (by kernel_rfl)) ?_
  unfold ref10_Good at hres
  refine rn_seq ?_
  refine rn_text ?_
  refine ro_op (by kernel_rfl) (op_box 43 (.tmp 0) (.v (.agg #[.int .u32 a1.Sender, .int .u32 a1.Media, .int .i64 a1.First, .int .i64 a1.Base, .int .i64 a1.Count, .slice A2 a1.Status.length k2, .slice A3 a1.Deltas.length k3])) 1 [U .u32 a1.Sender, U .u32 a1.Media, I a1.First, I a1.Base, I a1.Count, .v (.slice A2 a1.Status.length k2), .v (.slice A3 a1.Deltas.length k3)] (fun b4 => [b4]) (fun b4 => [.c 0 [U .u32 a1.Sender, U .u32 a1.Media, I a1.First, I a1.Base, I a1.Count, .v (.slice A2 a1.Status.length k2), .v (.slice A3 a1.Deltas.length k3)] 43]) (by kernel_rfl) (by kernel_rfl) (by kernel_rfl) (by kernel_rfl) 0 (fun _ => by kernel_rfl) (fun _ => mt_bs (by kernel_rfl)) (fun _ => by kernel_rfl) (fun b4 => ro_fin ?_))
  refine ro_q 1 [] [1] [(1, .p 0 0)] [] (by kernel_rfl) trivial ?_
  refine ro_end (by kernel_rfl) (fin_next ?_)
  refine rn_join (V := Unit) (J := fun v => ref10_Good.j956 a1 = some r) (sv := fun v => ⟨[b4], [(1, .p 0 0)], [.c 0 [U .u32 a1.Sender, U .u32 a1.Media, I a1.First, I a1.Base, I a1.Count, .v (.slice A2 a1.Status.length k2), .v (.slice A3 a1.Deltas.length k3)] 43]⟩) ?_ ?_
  · refine rn_seq ?_
    refine rn_text ?_
    refine ro_q 4 [] [1, 9] [(1, .p 0 0), (9, B (decide (a1.First < 0)))] [] (by kernel_rfl) trivial ?_
    refine ro_split 9 (decide (a1.First < 0)) (by kernel_rfl) (fun c5 => ?_) (fun c5 => ?_)
    · rw [if_pos (of_decide_eq_true c5)] at hres
      refine ro_q 36 [] [1, 45] [(1, .p 0 0), (45, B true)] [] (by kernel_rfl) trivial ?_
      refine ro_end (by kernel_rfl) (fin_next ?_)
      refine rn_cond_t (by kernel_rfl) ?_
      refine rn_seq ?_
      refine rn_q [] [2] [(2, B false)] [] (by kernel_rfl) trivial (fin_next ?_)
      refine rn_ret (fin_then_ret ?_)
      refine fin_ret [.bool false] (by kernel_rfl) fun w' hw' => ?_
      have hq := Option.some.inj hres
      subst hq
      exact ⟨rfl, hw'.drop⟩
    · rw [if_neg (of_decide_eq_false c5)] at hres
      refine ro_q 5 [] [1, 14] [(1, .p 0 0), (14, B (decide (65535 < a1.First)))] [] (by kernel_rfl) trivial ?_
      refine ro_split 14 (decide (65535 < a1.First)) (by kernel_rfl) (fun c6 => ?_) (fun c6 => ?_)
      · rw [if_pos (of_decide_eq_true c6)] at hres
        refine ro_q 31 [] [1, 45] [(1, .p 0 0), (45, B true)] [] (by kernel_rfl) trivial ?_
        refine ro_end (by kernel_rfl) (fin_next ?_)
        refine rn_cond_t (by kernel_rfl) ?_
        refine rn_seq ?_
        refine rn_q [] [2] [(2, B false)] [] (by kernel_rfl) trivial (fin_next ?_)
        refine rn_ret (fin_then_ret ?_)
        refine fin_ret [.bool false] (by kernel_rfl) fun w' hw' => ?_
        have hq := Option.some.inj hres
        subst hq
        exact ⟨rfl, hw'.drop⟩
      · rw [if_neg (of_decide_eq_false c6)] at hres
        refine ro_q 5 [] [1, 19] [(1, .p 0 0), (19, B (decide (a1.Base < (-8388608))))] [] (by kernel_rfl) trivial ?_
        refine ro_split 19 (decide (a1.Base < (-8388608))) (by kernel_rfl) (fun c7 => ?_) (fun c7 => ?_)
        · rw [if_pos (of_decide_eq_true c7)] at hres
          refine ro_q 26 [] [1, 45] [(1, .p 0 0), (45, B true)] [] (by kernel_rfl) trivial ?_
          refine ro_end (by kernel_rfl) (fin_next ?_)
          refine rn_cond_t (by kernel_rfl) ?_
          refine rn_seq ?_
          refine rn_q [] [2] [(2, B false)] [] (by kernel_rfl) trivial (fin_next ?_)
          refine rn_ret (fin_then_ret ?_)
          refine fin_ret [.bool false] (by kernel_rfl) fun w' hw' => ?_
          have hq := Option.some.inj hres
          subst hq
          exact ⟨rfl, hw'.drop⟩
        · rw [if_neg (of_decide_eq_false c7)] at hres
          refine ro_q 5 [] [1, 24] [(1, .p 0 0), (24, B (decide (8388608 ≤ a1.Base)))] [] (by kernel_rfl) trivial ?_
          refine ro_split 24 (decide (8388608 ≤ a1.Base)) (by kernel_rfl) (fun c8 => ?_) (fun c8 => ?_)
          · rw [if_pos (of_decide_eq_true c8)] at hres
            refine ro_q 21 [] [1, 45] [(1, .p 0 0), (45, B true)] [] (by kernel_rfl) trivial ?_
            refine ro_end (by kernel_rfl) (fin_next ?_)
            refine rn_cond_t (by kernel_rfl) ?_
            refine rn_seq ?_
            refine rn_q [] [2] [(2, B false)] [] (by kernel_rfl) trivial (fin_next ?_)
            refine rn_ret (fin_then_ret ?_)
            refine fin_ret [.bool false] (by kernel_rfl) fun w' hw' => ?_
            have hq := Option.some.inj hres
            subst hq
            exact ⟨rfl, hw'.drop⟩
          · rw [if_neg (of_decide_eq_false c8)] at hres
            refine ro_q 5 [] [1, 29] [(1, .p 0 0), (29, B (decide (a1.Count < 0)))] [] (by kernel_rfl) trivial ?_
            refine ro_split 29 (decide (a1.Count < 0)) (by kernel_rfl) (fun c9 => ?_) (fun c9 => ?_)
            · rw [if_pos (of_decide_eq_true c9)] at hres
              refine ro_q 16 [] [1, 45] [(1, .p 0 0), (45, B true)] [] (by kernel_rfl) trivial ?_
              refine ro_end (by kernel_rfl) (fin_next ?_)
              refine rn_cond_t (by kernel_rfl) ?_
              refine rn_seq ?_
              refine rn_q [] [2] [(2, B false)] [] (by kernel_rfl) trivial (fin_next ?_)
              refine rn_ret (fin_then_ret ?_)
              refine fin_ret [.bool false] (by kernel_rfl) fun w' hw' => ?_
              have hq := Option.some.inj hres
              subst hq
              exact ⟨rfl, hw'.drop⟩
            · rw [if_neg (of_decide_eq_false c9)] at hres
              refine ro_q 5 [] [1, 34] [(1, .p 0 0), (34, B (decide (255 < a1.Count)))] [] (by kernel_rfl) trivial ?_
              refine ro_split 34 (decide (255 < a1.Count)) (by kernel_rfl) (fun c10 => ?_) (fun c10 => ?_)
              · rw [if_pos (of_decide_eq_true c10)] at hres
                refine ro_q 11 [] [1, 45] [(1, .p 0 0), (45, B true)] [] (by kernel_rfl) trivial ?_
                refine ro_end (by kernel_rfl) (fin_next ?_)
                refine rn_cond_t (by kernel_rfl) ?_
                refine rn_seq ?_
                refine rn_q [] [2] [(2, B false)] [] (by kernel_rfl) trivial (fin_next ?_)
                refine rn_ret (fin_then_ret ?_)
                refine fin_ret [.bool false] (by kernel_rfl) fun w' hw' => ?_
                have hq := Option.some.inj hres
                subst hq
                exact ⟨rfl, hw'.drop⟩
              · rw [if_neg (of_decide_eq_false c10)] at hres
                refine ro_q 6 [] [1, 40] [(1, .p 0 0), (40, B (decide ((a1.Status.length : Int) < 1)))] [] (by kernel_rfl) trivial ?_
                refine ro_split 40 (decide ((a1.Status.length : Int) < 1)) (by kernel_rfl) (fun c11 => ?_) (fun c11 => ?_)
                · rw [if_pos (of_decide_eq_true c11)] at hres
                  refine ro_q 5 [] [1, 45] [(1, .p 0 0), (45, B true)] [] (by kernel_rfl) trivial ?_
                  refine ro_end (by kernel_rfl) (fin_next ?_)
                  refine rn_cond_t (by kernel_rfl) ?_
                  refine rn_seq ?_
                  refine rn_q [] [2] [(2, B false)] [] (by kernel_rfl) trivial (fin_next ?_)
                  refine rn_ret (fin_then_ret ?_)
                  refine fin_ret [.bool false] (by kernel_rfl) fun w' hw' => ?_
                  have hq := Option.some.inj hres
                  subst hq
                  exact ⟨rfl, hw'.drop⟩
                · rw [if_neg (of_decide_eq_false c11)] at hres
                  refine ro_q 5 [] [1, 45] [(1, .p 0 0), (45, B (decide (4096 < (a1.Status.length : Int))))] [] (by kernel_rfl) trivial ?_
                  refine ro_end (by kernel_rfl) (fin_next ?_)
                  refine rn_cond (decide (4096 < (a1.Status.length : Int))) (by kernel_rfl) (fun c12 => ?_) (fun c12 => ?_)
                  · rw [if_pos (of_decide_eq_true c12)] at hres
                    refine rn_seq ?_
                    refine rn_q [] [2] [(2, B false)] [] (by kernel_rfl) trivial (fin_next ?_)
                    refine rn_ret (fin_then_ret ?_)
                    refine fin_ret [.bool false] (by kernel_rfl) fun w' hw' => ?_
                    have hq := Option.some.inj hres
                    subst hq
                    exact ⟨rfl, hw'.drop⟩
                  · rw [if_neg (of_decide_eq_false c12)] at hres
                    refine rn_skip (fin_then ?_)
                    refine fin_join () hres [0] [] (by kernel_rfl) (by kernel_rfl) (by kernel_rfl)
  · rintro ⟨⟩ hres
    unfold ref10_Good.j956 at hres
    refine rn_seq ?_
    refine rn_q [] [1, 3] [(1, .p 0 0), (3, I 0)] [] (by kernel_rfl) trivial (fin_next ?_)
    refine rn_seq ?_
    refine rn_seq ?_
    refine rn_q [] [1, 3, 4] [(1, .p 0 0), (3, I 0), (4, I 0)] [] (by kernel_rfl) trivial (fin_next ?_)
    refine rn_block ?_
    refine rn_loop (V := Int × Int) (J := fun k v => ref10_Good.l635 a1 k v.1 v.2 = some r) (sv := fun v => ⟨[b4], [(1, .p 0 0), (3, I v.1), (4, I v.2)], [.c 0 [U .u32 a1.Sender, U .u32 a1.Media, I a1.First, I a1.Base, I a1.Count, .v (.slice A2 a1.Status.length k2), .v (.slice A3 a1.Deltas.length k3)] 43]⟩) FUEL (0, 0) hres (fun a w hs => hs.conv [0] (by kernel_rfl) (by kernel_rfl) ⟨[], by kernel_rfl⟩) ?_
    rintro k635 ⟨x313, x314⟩ hres
    rcases k635 with _ | k635
    · rw [ref10_Good.l635] at hres; cases hres
    · rw [ref10_Good.l635] at hres
      refine rn_seq ?_
      refine rn_seq ?_
      refine rn_q [] [1, 3, 4, 50] [(1, .p 0 0), (3, I x313), (4, I x314), (50, B (decide (x314 < (a1.Status.length : Int))))] [] (by kernel_rfl) trivial (fin_next ?_)
      refine rn_cond (decide (x314 < (a1.Status.length : Int))) (by kernel_rfl) (fun c636 => ?_) (fun c636 => ?_)
      · rw [if_pos (of_decide_eq_true c636)] at hres
        refine rn_skip (fin_next ?_)
        refine rn_seq ?_
        refine rn_block ?_
        refine rn_seq ?_
        refine bind_elim hres fun y637 hy637 hres => ?_
        refine rn_q [(3, .v (elP A2 (x314.toNat * 1 + 0))), (4, I y637)] [1, 3, 4, 5] [(1, .p 0 0), (3, I x313), (4, I x314), (5, I y637)] [(smIa 31 (.slice A2 a1.Status.length k2) (.int .i64 x314), elP A2 (x314.toNat * 1 + 0)), (smLd 3 (elP A2 (x314.toNat * 1 + 0)), .int .i64 y637)] (by kernel_rfl) ⟨ob_ia (E := (eI .i64)) (U := 3) (i := x314) (sz := 1) (by kernel_rfl) (by kernel_rfl) (by kernel_rfl) hA2.app hy637, ⟨ob_ld1 (E := (eI .i64)) (i := x314) (sz := 1) (o := 0) (d := (.int .i64)) (by kernel_rfl) (by kernel_rfl) (by kernel_rfl) (by kernel_rfl) hA2.app hy637, trivial⟩⟩ (fin_next ?_)
        refine rn_join (V := Unit) (J := fun v => ref10_Good.j955 (ref10_Good.l635 a1 k635) a1 x313 x314 y637 = some r) (sv := fun v => ⟨[b4], [(1, .p 0 0), (3, I x313), (4, I x314), (5, I y637)], [.c 0 [U .u32 a1.Sender, U .u32 a1.Media, I a1.First, I a1.Base, I a1.Count, .v (.slice A2 a1.Status.length k2), .v (.slice A3 a1.Deltas.length k3)] 43]⟩) ?_ ?_
        · refine rn_seq ?_
          refine rn_text ?_
          refine ro_q 3 [] [1, 3, 4, 5, 60] [(1, .p 0 0), (3, I x313), (4, I x314), (5, I y637), (60, B (decide (y637 < 0)))] [] (by kernel_rfl) trivial ?_
          refine ro_split 60 (decide (y637 < 0)) (by kernel_rfl) (fun c638 => ?_) (fun c638 => ?_)
          · rw [if_pos (of_decide_eq_true c638)] at hres
            refine ro_q 3 [] [1, 3, 4, 5, 63] [(1, .p 0 0), (3, I x313), (4, I x314), (5, I y637), (63, B true)] [] (by kernel_rfl) trivial ?_
            refine ro_end (by kernel_rfl) (fin_next ?_)
            refine rn_cond_t (by kernel_rfl) ?_
            refine rn_seq ?_
            refine rn_q [] [2] [(2, B false)] [] (by kernel_rfl) trivial (fin_next ?_)
            refine rn_ret (fin_then_ret (fin_block_ret (fin_then_ret (fin_then_ret (fin_block_ret (fin_then_ret ?_))))))
            refine fin_ret [.bool false] (by kernel_rfl) fun w' hw' => ?_
            have hq := Option.some.inj hres
            subst hq
            exact ⟨rfl, hw'.drop⟩
          · rw [if_neg (of_decide_eq_false c638)] at hres
            refine ro_q 3 [] [1, 3, 4, 5, 63] [(1, .p 0 0), (3, I x313), (4, I x314), (5, I y637), (63, B (decide (2 < y637)))] [] (by kernel_rfl) trivial ?_
            refine ro_end (by kernel_rfl) (fin_next ?_)
            refine rn_cond (decide (2 < y637)) (by kernel_rfl) (fun c639 => ?_) (fun c639 => ?_)
            · rw [if_pos (of_decide_eq_true c639)] at hres
              refine rn_seq ?_
              refine rn_q [] [2] [(2, B false)] [] (by kernel_rfl) trivial (fin_next ?_)
              refine rn_ret (fin_then_ret (fin_block_ret (fin_then_ret (fin_then_ret (fin_block_ret (fin_then_ret ?_))))))
              refine fin_ret [.bool false] (by kernel_rfl) fun w' hw' => ?_
              have hq := Option.some.inj hres
              subst hq
              exact ⟨rfl, hw'.drop⟩
            · rw [if_neg (of_decide_eq_false c639)] at hres
              refine rn_skip (fin_then ?_)
              refine fin_join () hres [0] [] (by kernel_rfl) (by kernel_rfl) (by kernel_rfl)
        · rintro ⟨⟩ hres
          unfold ref10_Good.j955 at hres
          refine rn_seq ?_
          refine rn_seq ?_
          refine rn_q [] [1, 3, 4, 5, 65] [(1, .p 0 0), (3, I x313), (4, I x314), (5, I y637), (65, B (y637 == 0))] [] (by kernel_rfl) trivial (fin_next ?_)
          refine rn_cond (y637 == 0) (by kernel_rfl) (fun c940 => ?_) (fun c940 => ?_)
          · rw [if_pos (eq_t c940)] at hres
            refine rn_exit (fin_then_exit (fin_block_exit (fin_next ?_)))
            refine rn_q [] [1, 3, 4] [(1, .p 0 0), (3, I x313), (4, I (w64 (x314 + 1)))] [] (by kernel_rfl) trivial (fin_then ?_)
            refine fin_loop (x313, w64 (x314 + 1)) hres [0] [] (by kernel_rfl) (by kernel_rfl) (by kernel_rfl)
          · rw [if_neg (eq_f c940)] at hres
            refine rn_skip (fin_next ?_)
            refine rn_seq ?_
            refine rn_seq ?_
            refine rn_text ?_
            refine ro_q 6 [] [1, 3, 4, 5, 71] [(1, .p 0 0), (3, I x313), (4, I x314), (5, I y637), (71, B (decide ((a1.Deltas.length : Int) ≤ x313)))] [] (by kernel_rfl) trivial ?_
            refine ro_split 71 (decide ((a1.Deltas.length : Int) ≤ x313)) (by kernel_rfl) (fun c941 => ?_) (fun c941 => ?_)
            · rw [if_pos (of_decide_eq_true c941)] at hres
              refine ro_q 35 [] [1, 3, 4, 106] [(1, .p 0 0), (3, I x313), (4, I x314), (106, B true)] [] (by kernel_rfl) trivial ?_
              refine ro_end (by kernel_rfl) (fin_next ?_)
              refine rn_cond_t (by kernel_rfl) ?_
              refine rn_seq ?_
              refine rn_q [] [2] [(2, B false)] [] (by kernel_rfl) trivial (fin_next ?_)
              refine rn_ret (fin_then_ret (fin_block_ret (fin_then_ret (fin_then_ret (fin_block_ret (fin_then_ret ?_))))))
              refine fin_ret [.bool false] (by kernel_rfl) fun w' hw' => ?_
              have hq := Option.some.inj hres
              subst hq
              exact ⟨rfl, hw'.drop⟩
            · rw [if_neg (of_decide_eq_false c941)] at hres
              refine ro_q 3 [] [1, 3, 4, 71, 74] [(1, .p 0 0), (3, I x313), (4, I x314), (71, B false), (74, B (y637 == 1))] [] (by kernel_rfl) trivial ?_
              refine ro_split 74 (y637 == 1) (by kernel_rfl) (fun c942 => ?_) (fun c942 => ?_)
              · rw [if_pos (eq_t c942)] at hres
                refine bind_elim hres fun y943 hy943 hres => ?_
                refine ro_q 7 [(12, .v (elP A3 (x313.toNat * 1 + 0))), (13, I y943)] [1, 3, 4, 71, 74, 81] [(1, .p 0 0), (3, I x313), (4, I x314), (71, B false), (74, B true), (81, B (decide (y943 < 0)))] [(smIa 31 (.slice A3 a1.Deltas.length k3) (.int .i64 x313), elP A3 (x313.toNat * 1 + 0)), (smLd 3 (elP A3 (x313.toNat * 1 + 0)), .int .i64 y943)] (by kernel_rfl) ⟨ob_ia (E := (eI .i64)) (U := 3) (i := x313) (sz := 1) (by kernel_rfl) (by kernel_rfl) (by kernel_rfl) hA3.app hy943, ⟨ob_ld1 (E := (eI .i64)) (i := x313) (sz := 1) (o := 0) (d := (.int .i64)) (by kernel_rfl) (by kernel_rfl) (by kernel_rfl) (by kernel_rfl) hA3.app hy943, trivial⟩⟩ ?_
                refine ro_split 81 (decide (y943 < 0)) (by kernel_rfl) (fun c944 => ?_) (fun c944 => ?_)
                · rw [if_pos (of_decide_eq_true c944)] at hres
                  refine ro_q 25 [] [1, 3, 4, 106] [(1, .p 0 0), (3, I x313), (4, I x314), (106, B true)] [] (by kernel_rfl) trivial ?_
                  refine ro_end (by kernel_rfl) (fin_next ?_)
                  refine rn_cond_t (by kernel_rfl) ?_
                  refine rn_seq ?_
                  refine rn_q [] [2] [(2, B false)] [] (by kernel_rfl) trivial (fin_next ?_)
                  refine rn_ret (fin_then_ret (fin_block_ret (fin_then_ret (fin_then_ret (fin_block_ret (fin_then_ret ?_))))))
                  refine fin_ret [.bool false] (by kernel_rfl) fun w' hw' => ?_
                  have hq := Option.some.inj hres
                  subst hq
                  exact ⟨rfl, hw'.drop⟩
                · rw [if_neg (of_decide_eq_false c944)] at hres
                  refine bind_elim hres fun y945 hy945 hres => ?_
                  refine ro_q 10 [(19, .v (elP A3 (x313.toNat * 1 + 0))), (20, I y945)] [1, 3, 4, 91] [(1, .p 0 0), (3, I x313), (4, I x314), (91, B (decide (255 < y945)))] [(smIa 31 (.slice A3 a1.Deltas.length k3) (.int .i64 x313), elP A3 (x313.toNat * 1 + 0)), (smLd 3 (elP A3 (x313.toNat * 1 + 0)), .int .i64 y945)] (by kernel_rfl) ⟨ob_ia (E := (eI .i64)) (U := 3) (i := x313) (sz := 1) (by kernel_rfl) (by kernel_rfl) (by kernel_rfl) hA3.app hy945, ⟨ob_ld1 (E := (eI .i64)) (i := x313) (sz := 1) (o := 0) (d := (.int .i64)) (by kernel_rfl) (by kernel_rfl) (by kernel_rfl) (by kernel_rfl) hA3.app hy945, trivial⟩⟩ ?_
                  refine ro_split 91 (decide (255 < y945)) (by kernel_rfl) (fun c946 => ?_) (fun c946 => ?_)
                  · rw [if_pos (of_decide_eq_true c946)] at hres
                    refine ro_q 15 [] [1, 3, 4, 106] [(1, .p 0 0), (3, I x313), (4, I x314), (106, B true)] [] (by kernel_rfl) trivial ?_
                    refine ro_end (by kernel_rfl) (fin_next ?_)
                    refine rn_cond_t (by kernel_rfl) ?_
                    refine rn_seq ?_
                    refine rn_q [] [2] [(2, B false)] [] (by kernel_rfl) trivial (fin_next ?_)
                    refine rn_ret (fin_then_ret (fin_block_ret (fin_then_ret (fin_then_ret (fin_block_ret (fin_then_ret ?_))))))
                    refine fin_ret [.bool false] (by kernel_rfl) fun w' hw' => ?_
                    have hq := Option.some.inj hres
                    subst hq
                    exact ⟨rfl, hw'.drop⟩
                  · rw [if_neg (of_decide_eq_false c946)] at hres
                    refine bind_elim hres fun y947 hy947 hres => ?_
                    refine ro_q 8 [(29, .v (elP A3 (x313.toNat * 1 + 0))), (30, I y947)] [1, 3, 4, 99] [(1, .p 0 0), (3, I x313), (4, I x314), (99, B (decide (y947 < (-32768))))] [(smIa 31 (.slice A3 a1.Deltas.length k3) (.int .i64 x313), elP A3 (x313.toNat * 1 + 0)), (smLd 3 (elP A3 (x313.toNat * 1 + 0)), .int .i64 y947)] (by kernel_rfl) ⟨ob_ia (E := (eI .i64)) (U := 3) (i := x313) (sz := 1) (by kernel_rfl) (by kernel_rfl) (by kernel_rfl) hA3.app hy947, ⟨ob_ld1 (E := (eI .i64)) (i := x313) (sz := 1) (o := 0) (d := (.int .i64)) (by kernel_rfl) (by kernel_rfl) (by kernel_rfl) (by kernel_rfl) hA3.app hy947, trivial⟩⟩ ?_
                    refine ro_split 99 (decide (y947 < (-32768))) (by kernel_rfl) (fun c948 => ?_) (fun c948 => ?_)
                    · rw [if_pos (of_decide_eq_true c948)] at hres
                      refine ro_q 7 [] [1, 3, 4, 106] [(1, .p 0 0), (3, I x313), (4, I x314), (106, B true)] [] (by kernel_rfl) trivial ?_
                      refine ro_end (by kernel_rfl) (fin_next ?_)
                      refine rn_cond_t (by kernel_rfl) ?_
                      refine rn_seq ?_
                      refine rn_q [] [2] [(2, B false)] [] (by kernel_rfl) trivial (fin_next ?_)
                      refine rn_ret (fin_then_ret (fin_block_ret (fin_then_ret (fin_then_ret (fin_block_ret (fin_then_ret ?_))))))
                      refine fin_ret [.bool false] (by kernel_rfl) fun w' hw' => ?_
                      have hq := Option.some.inj hres
                      subst hq
                      exact ⟨rfl, hw'.drop⟩
                    · rw [if_neg (of_decide_eq_false c948)] at hres
                      refine bind_elim hres fun y949 hy949 hres => ?_
                      refine ro_q 7 [(37, .v (elP A3 (x313.toNat * 1 + 0))), (38, I y949)] [1, 3, 4, 106] [(1, .p 0 0), (3, I x313), (4, I x314), (106, B (decide (32767 < y949)))] [(smIa 31 (.slice A3 a1.Deltas.length k3) (.int .i64 x313), elP A3 (x313.toNat * 1 + 0)), (smLd 3 (elP A3 (x313.toNat * 1 + 0)), .int .i64 y949)] (by kernel_rfl) ⟨ob_ia (E := (eI .i64)) (U := 3) (i := x313) (sz := 1) (by kernel_rfl) (by kernel_rfl) (by kernel_rfl) hA3.app hy949, ⟨ob_ld1 (E := (eI .i64)) (i := x313) (sz := 1) (o := 0) (d := (.int .i64)) (by kernel_rfl) (by kernel_rfl) (by kernel_rfl) (by kernel_rfl) hA3.app hy949, trivial⟩⟩ ?_
                      refine ro_end (by kernel_rfl) (fin_next ?_)
                      refine rn_cond (decide (32767 < y949)) (by kernel_rfl) (fun c950 => ?_) (fun c950 => ?_)
                      · rw [if_pos (of_decide_eq_true c950)] at hres
                        refine rn_seq ?_
                        refine rn_q [] [2] [(2, B false)] [] (by kernel_rfl) trivial (fin_next ?_)
                        refine rn_ret (fin_then_ret (fin_block_ret (fin_then_ret (fin_then_ret (fin_block_ret (fin_then_ret ?_))))))
                        refine fin_ret [.bool false] (by kernel_rfl) fun w' hw' => ?_
                        have hq := Option.some.inj hres
                        subst hq
                        exact ⟨rfl, hw'.drop⟩
                      · rw [if_neg (of_decide_eq_false c950)] at hres
                        refine rn_skip (fin_next ?_)
                        refine rn_q [] [1, 3, 4] [(1, .p 0 0), (3, I (w64 (x313 + 1))), (4, I x314)] [] (by kernel_rfl) trivial (fin_block (fin_next ?_))
                        refine rn_q [] [1, 3, 4] [(1, .p 0 0), (3, I (w64 (x313 + 1))), (4, I (w64 (x314 + 1)))] [] (by kernel_rfl) trivial (fin_then ?_)
                        refine fin_loop (w64 (x313 + 1), w64 (x314 + 1)) hres [0] [] (by kernel_rfl) (by kernel_rfl) (by kernel_rfl)
              · rw [if_neg (eq_f c942)] at hres
                refine bind_elim hres fun y951 hy951 hres => ?_
                refine ro_q 25 [(29, .v (elP A3 (x313.toNat * 1 + 0))), (30, I y951)] [1, 3, 4, 99] [(1, .p 0 0), (3, I x313), (4, I x314), (99, B (decide (y951 < (-32768))))] [(smIa 31 (.slice A3 a1.Deltas.length k3) (.int .i64 x313), elP A3 (x313.toNat * 1 + 0)), (smLd 3 (elP A3 (x313.toNat * 1 + 0)), .int .i64 y951)] (by kernel_rfl) ⟨ob_ia (E := (eI .i64)) (U := 3) (i := x313) (sz := 1) (by kernel_rfl) (by kernel_rfl) (by kernel_rfl) hA3.app hy951, ⟨ob_ld1 (E := (eI .i64)) (i := x313) (sz := 1) (o := 0) (d := (.int .i64)) (by kernel_rfl) (by kernel_rfl) (by kernel_rfl) (by kernel_rfl) hA3.app hy951, trivial⟩⟩ ?_
                refine ro_split 99 (decide (y951 < (-32768))) (by kernel_rfl) (fun c952 => ?_) (fun c952 => ?_)
                · rw [if_pos (of_decide_eq_true c952)] at hres
                  refine ro_q 7 [] [1, 3, 4, 106] [(1, .p 0 0), (3, I x313), (4, I x314), (106, B true)] [] (by kernel_rfl) trivial ?_
                  refine ro_end (by kernel_rfl) (fin_next ?_)
                  refine rn_cond_t (by kernel_rfl) ?_
                  refine rn_seq ?_
                  refine rn_q [] [2] [(2, B false)] [] (by kernel_rfl) trivial (fin_next ?_)
                  refine rn_ret (fin_then_ret (fin_block_ret (fin_then_ret (fin_then_ret (fin_block_ret (fin_then_ret ?_))))))
                  refine fin_ret [.bool false] (by kernel_rfl) fun w' hw' => ?_
                  have hq := Option.some.inj hres
                  subst hq
                  exact ⟨rfl, hw'.drop⟩
                · rw [if_neg (of_decide_eq_false c952)] at hres
                  refine bind_elim hres fun y953 hy953 hres => ?_
                  refine ro_q 7 [(37, .v (elP A3 (x313.toNat * 1 + 0))), (38, I y953)] [1, 3, 4, 106] [(1, .p 0 0), (3, I x313), (4, I x314), (106, B (decide (32767 < y953)))] [(smIa 31 (.slice A3 a1.Deltas.length k3) (.int .i64 x313), elP A3 (x313.toNat * 1 + 0)), (smLd 3 (elP A3 (x313.toNat * 1 + 0)), .int .i64 y953)] (by kernel_rfl) ⟨ob_ia (E := (eI .i64)) (U := 3) (i := x313) (sz := 1) (by kernel_rfl) (by kernel_rfl) (by kernel_rfl) hA3.app hy953, ⟨ob_ld1 (E := (eI .i64)) (i := x313) (sz := 1) (o := 0) (d := (.int .i64)) (by kernel_rfl) (by kernel_rfl) (by kernel_rfl) (by kernel_rfl) hA3.app hy953, trivial⟩⟩ ?_
                  refine ro_end (by kernel_rfl) (fin_next ?_)
                  refine rn_cond (decide (32767 < y953)) (by kernel_rfl) (fun c954 => ?_) (fun c954 => ?_)
                  · rw [if_pos (of_decide_eq_true c954)] at hres
                    refine rn_seq ?_
                    refine rn_q [] [2] [(2, B false)] [] (by kernel_rfl) trivial (fin_next ?_)
                    refine rn_ret (fin_then_ret (fin_block_ret (fin_then_ret (fin_then_ret (fin_block_ret (fin_then_ret ?_))))))
                    refine fin_ret [.bool false] (by kernel_rfl) fun w' hw' => ?_
                    have hq := Option.some.inj hres
                    subst hq
                    exact ⟨rfl, hw'.drop⟩
                  · rw [if_neg (of_decide_eq_false c954)] at hres
                    refine rn_skip (fin_next ?_)
                    refine rn_q [] [1, 3, 4] [(1, .p 0 0), (3, I (w64 (x313 + 1))), (4, I x314)] [] (by kernel_rfl) trivial (fin_block (fin_next ?_))
                    refine rn_q [] [1, 3, 4] [(1, .p 0 0), (3, I (w64 (x313 + 1))), (4, I (w64 (x314 + 1)))] [] (by kernel_rfl) trivial (fin_then ?_)
                    refine fin_loop (w64 (x313 + 1), w64 (x314 + 1)) hres [0] [] (by kernel_rfl) (by kernel_rfl) (by kernel_rfl)
      · rw [if_neg (of_decide_eq_false c636)] at hres
        refine rn_exit (fin_then_exit (fin_then_exit (fin_block_exit (fin_next ?_))))
        refine rn_seq ?_
        refine rn_q [] [2] [(2, B (x313 == (a1.Deltas.length : Int)))] [] (by kernel_rfl) trivial (fin_next ?_)
        refine rn_ret ?_
        refine fin_ret [.bool (x313 == (a1.Deltas.length : Int))] (by kernel_rfl) fun w' hw' => ?_
        have hq := Option.some.inj hres
        subst hq
        exact ⟨rfl, hw'.drop⟩
structure S_ref06_Writer where
  b : List Int
  n : Int
def R_ref06_Writer.b (b : Nat) (x : S_ref06_Writer) (A0 : Option Addr) (k0 : Nat) : List Asn := [cellsA b [.slice A0 x.b.length k0, .int .i64 x.n] 94, slA 5 (eI .u8) A0 k0 x.b]
def R_ref06_Writer (b : Nat) (x : S_ref06_Writer) : Asn := exA fun (A0 : Option Addr) => exA fun (k0 : Nat) => starsA (R_ref06_Writer.b b x A0 k0)
theorem R_ref06_Writer.out {b : Nat} {x : S_ref06_Writer} {w0 w : World} {F : List Asn} (h : SH w0 w (R_ref06_Writer b x :: F)) : ∃ A0 k0, SH w0 w (R_ref06_Writer.b b x A0 k0 ++ F) := by
  obtain ⟨A0, h⟩ := SH.ex.1 h
  obtain ⟨k0, h⟩ := SH.ex.1 h
  exact ⟨A0, k0, SH.stars.1 h⟩
theorem R_ref06_Writer.ent {b : Nat} {x : S_ref06_Writer} {A0 : Option Addr} {k0 : Nat} : Ent (R_ref06_Writer.b b x A0 k0) [R_ref06_Writer b x] := fun _ _ _ h => SH.ex.2 ⟨_, SH.ex.2 ⟨_, (SH.stars.2 h)⟩⟩
/- 16 flywheel/flywheelref06.Write -/
def ref06_Write  : Option S_ref06_Writer :=
  some (⟨[], 0⟩ : S_ref06_Writer)
theorem ref06_Write_ok  {r : S_ref06_Writer} (hres : ref06_Write  = some r) {w0 w : World} {F : List Asn} (hw : SH w0 w (F)) :
    Calls Try.prog 16 #[] w fun e w' => ∃ b3, e = .returned (.pointer (some ⟨b3, 0, none⟩)) ∧ SH w0 w' ([R_ref06_Writer b3 r] ++ F) := by
  refine fw_enter (n := 3) (bs := []) (env := []) (H := []) (F := F) Try.func16 rfl (by kernel_rfl) (by kernel_rfl) (by kernel_rfl) (hw.eq (by kernel_rfl)) ?_
  unfold ref06_Write at hres
  refine rn_seq ?_
  refine rn_q [] [] [] [] (by kernel_rfl) trivial (fin_next ?_)
  refine rn_seq ?_
  refine rn_text ?_
  refine ro_q 1 [] [1] [(1, .v (.agg #[.slice none 0 0, .int .i64 0]))] [] (by kernel_rfl) trivial ?_
  refine ro_op (by kernel_rfl) (op_box 94 (.tmp 1) (.v (.agg #[.slice none 0 0, .int .i64 0])) 2 [.v (.slice none 0 0), I 0] (fun b1 => [b1]) (fun b1 => [.c 0 [.v (.slice none 0 0), I 0] 94]) (by kernel_rfl) (by kernel_rfl) (by kernel_rfl) (by kernel_rfl) 0 (fun _ => by kernel_rfl) (fun _ => mt_bs (by kernel_rfl)) (fun _ => by kernel_rfl) (fun b1 => ro_fin ?_))
  refine ro_q 1 [] [0] [(0, .p 0 0)] [] (by kernel_rfl) trivial ?_
  refine ro_end (by kernel_rfl) (fin_next ?_)
  refine rn_ret ?_
  refine fin_nil 5 (eI .u8) ?_
  refine fin_fold [.a (R_ref06_Writer b1 (⟨[], 0⟩ : S_ref06_Writer))] (fun w hw => (R_ref06_Writer.ent (b := b1) (x := (⟨[], 0⟩ : S_ref06_Writer)) _ _ _ (hw.sel (L' := R_ref06_Writer.b b1 (⟨[], 0⟩ : S_ref06_Writer) none 0 ++ ([] ++ F)) [1, 0] (by kernel_rfl))).eq (by kernel_rfl)) ?_
  refine fin_ret [.pointer (some ⟨b1, 0, none⟩)] (by kernel_rfl) fun w' hw' => ?_
  have hq := Option.some.inj hres
  subst hq
  exact ⟨b1, rfl, hw'.take (L' := [R_ref06_Writer b1 (⟨[], 0⟩ : S_ref06_Writer)]) [0] [] (by kernel_rfl)⟩
end Fl
