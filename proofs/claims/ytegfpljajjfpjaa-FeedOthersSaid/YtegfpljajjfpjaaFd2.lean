import Derived.Test.YtegfpljajjfpjaaFwT
import Derived.Test.YtegfpljajjfpjaaProg
import Derived.Test.YtegfpljajjfpjaaFd0
import Derived.Test.YtegfpljajjfpjaaFd1
set_option linter.unusedVariables false
set_option maxRecDepth 100000
set_option maxHeartbeats 8000000
namespace Fl
open Go Go.Proofs Fw
/- 37 flywheel/ccfb.block -/
def ccfb_block.j6814 (r1 : Int → S_bits_Reader → (List S_api_Metric) → Option (S_api_Block × Int × S_bits_Reader)) (x4964 : Int) (x4966 : List S_api_Metric) (y6199 : Int × S_bits_Reader) (y6201 : Int × S_bits_Reader) (y6203 : Int × S_bits_Reader) : Option (S_api_Block × Int × S_bits_Reader) :=
  (cat 5864062014805 x4966 [(⟨y6199.1 == 1, w64 (y6201.1), w64 (y6203.1)⟩ : S_api_Metric)]).bind fun y6812 =>
  r1 (w64 (x4964 + 1)) y6203.2 y6812
def ccfb_block.j6510 (r1 : Int → S_bits_Reader → (List S_api_Metric) → Option (S_api_Block × Int × S_bits_Reader)) (x4964 : Int) (x4966 : List S_api_Metric) (y6199 : Int × S_bits_Reader) (y6201 : Int × S_bits_Reader) (y6203 : Int × S_bits_Reader) (j6507 : Bool) : Option (S_api_Block × Int × S_bits_Reader) :=
  (if j6507 = true then some ((⟨0, 0, []⟩ : S_api_Block), 70, y6203.2) else ccfb_block.j6814 (r1) x4964 x4966 y6199 y6201 y6203)
def ccfb_block.j7424 (y3720 : Int × S_bits_Reader) (y3722 : Int × S_bits_Reader) (x4966 : List S_api_Metric) (j7423 : S_bits_Reader) : Option (S_api_Block × Int × S_bits_Reader) :=
  some ((⟨y3720.1, w64 (y3722.1), x4966⟩ : S_api_Block), 0, j7423)
def ccfb_block.j7122 (y3720 : Int × S_bits_Reader) (y3722 : Int × S_bits_Reader) (x4966 : List S_api_Metric) (j7118 : Bool) (j7119 : S_bits_Reader) : Option (S_api_Block × Int × S_bits_Reader) :=
  (if j7118 = true then some ((⟨0, 0, []⟩ : S_api_Block), 91, j7119) else ccfb_block.j7424 y3720 y3722 x4966 j7119)
def ccfb_block.l6196 (y3720 : Int × S_bits_Reader) (y3722 : Int × S_bits_Reader) (y3725 : Int × S_bits_Reader) : Nat → Int → S_bits_Reader → (List S_api_Metric) → Option (S_api_Block × Int × S_bits_Reader)
  | 0, _, _, _ => none
  | k + 1, x4964, x4965, x4966 =>
    (if x4964 < (w64 (y3725.1)) then (bits_Reader_Get x4965 1).bind fun y6199 =>
  (bits_Reader_Get y6199.2 2).bind fun y6201 =>
  (bits_Reader_Get y6201.2 13).bind fun y6203 =>
  (if y6199.1 = 1 then ccfb_block.j6510 (ccfb_block.l6196 y3720 y3722 y3725 k) x4964 x4966 y6199 y6201 y6203 false else (if (w64 (y6201.1)) = 0 then ccfb_block.j6510 (ccfb_block.l6196 y3720 y3722 y3725 k) x4964 x4966 y6199 y6201 y6203 ((w64 (y6203.1)) != 0) else ccfb_block.j6510 (ccfb_block.l6196 y3720 y3722 y3725 k) x4964 x4966 y6199 y6201 y6203 true)) else (if ((w64 (y3725.1)).tmod 2) = 1 then (bits_Reader_Get x4965 16).bind fun y6817 =>
  ccfb_block.j7122 y3720 y3722 x4966 (y6817.1 != 0) y6817.2 else ccfb_block.j7122 y3720 y3722 x4966 false x4965))
def ccfb_block (a1 : S_bits_Reader) : Option (S_api_Block × Int × S_bits_Reader) :=
  (bits_Reader_Left a1).bind fun y3716 =>
  (if y3716 < 96 then some ((⟨0, 0, []⟩ : S_api_Block), 60, a1) else (bits_Reader_Get a1 32).bind fun y3720 =>
  (bits_Reader_Get y3720.2 16).bind fun y3722 =>
  (bits_Reader_Get y3722.2 16).bind fun y3725 =>
  (if 4096 < (w64 (y3725.1)) then some ((⟨0, 0, []⟩ : S_api_Block), 3, y3725.2) else (bits_Reader_Left y3725.2).bind fun y3729 =>
  (if y3729 < (w64 ((w64 ((w64 ((w64 ((w64 (y3725.1)) + 1)).tdiv 2)) * 32)) + 32)) then some ((⟨0, 0, []⟩ : S_api_Block), 60, y3725.2) else ccfb_block.l6196 y3720 y3722 y3725 FUEL 0 y3725.2 [])))
theorem ccfb_block_ok {a1 : S_bits_Reader} {b0 : Nat} {r : S_api_Block × Int × S_bits_Reader} (hres : ccfb_block a1 = some r) {w0 w : World} {F : List Asn} (hw : SH w0 w ([R_bits_Reader b0 a1] ++ F)) :
    Calls Try.prog 37 #[.pointer (some ⟨b0, 0, none⟩)] w fun e w' => ∃ A7426 k7426, e = .returned (.tuple #[.agg #[.int .u32 r.1.Ssrc, .int .i64 r.1.First, .slice A7426 r.1.Metrics.length k7426], .int .i64 r.2.1]) ∧ SH w0 w' ([slA 89 e_api_Metric A7426 k7426 r.1.Metrics, R_bits_Reader b0 r.2.2] ++ F) := by
  refine fw_enter (n := 78) (bs := [b0]) (env := [(0, .p 0 0)]) (H := [.a (R_bits_Reader b0 a1)]) (F := F) Try.func37 rfl (by kernel_rfl) (by kernel_rfl) (by kernel_rfl) (hw.eq (by kernel_rfl)) ?_
  unfold ccfb_block at hres
  refine rn_seq ?_
  refine rn_text ?_
  refine ro_op (by kernel_rfl) (op_alloc 87 2 (.agg #[.int .u32 0, .int .i64 0, .slice none 0 0]) [U .u32 0, I 0, .v (.slice none 0 0)] (fun b3714 => [b0, b3714]) (fun b3714 => [.c 1 [U .u32 0, I 0, .v (.slice none 0 0)] 87, .a (R_bits_Reader b0 a1)]) (by kernel_rfl) (by kernel_rfl) (by kernel_rfl) (by kernel_rfl) 1 (fun _ => by kernel_rfl) (fun _ => mt_bs (by kernel_rfl)) (fun _ => by kernel_rfl) (fun b3714 => ro_fin ?_))
  refine ro_q 1 [] [0, 2] [(0, .p 0 0), (2, .p 1 0)] [] (by kernel_rfl) trivial ?_
  refine ro_end (by kernel_rfl) (fin_next ?_)
  refine rn_seq ?_
  refine rn_seq ?_
  refine rn_text ?_
  refine ro_q 1 [] [0, 2, 7] [(0, .p 0 0), (2, .p 1 0), (7, .p 0 0)] [] (by kernel_rfl) trivial ?_
  refine bind_elim hres fun y3716 hy3716 hres => ?_
  refine ro_op (by kernel_rfl) (op_call (f := 36) (xs := #[(.tmp 7)]) (ats := #[96]) (d := (some 8)) (args := #[.pointer (some ⟨b0, 0, none⟩)]) (by kernel_rfl) (by kernel_rfl) (by kernel_rfl) (by kernel_rfl) fun w hw => (bits_Reader_Left_ok (F := [cellsA b3714 [.int .u32 0, .int .i64 0, .slice none 0 0] 87] ++ F) hy3716 (hw.sel [1] (by kernel_rfl : _ = [R_bits_Reader b0 a1] ++ ([cellsA b3714 [.int .u32 0, .int .i64 0, .slice none 0 0] 87] ++ F)))).mono ?_)
  rintro _ w1 ⟨rfl, hw1⟩
  refine ⟨_, [b0, b3714], [.a (R_bits_Reader b0 a1), .c 1 [U .u32 0, I 0, .v (.slice none 0 0)] 87], _, rfl, hw1.eq (by kernel_rfl), rfl, mt_same, ro_fin ?_⟩
  refine ro_q 1 [] [0, 2, 9] [(0, .p 0 0), (2, .p 1 0), (9, B (decide (y3716 < 96)))] [] (by kernel_rfl) trivial ?_
  refine ro_end (by kernel_rfl) (fin_next ?_)
  refine rn_cond (decide (y3716 < 96)) (by kernel_rfl) (fun c3717 => ?_) (fun c3717 => ?_)
  · rw [if_pos (of_decide_eq_true c3717)] at hres
    refine rn_seq ?_
    refine rn_text ?_
    refine ro_q 1 [] [2, 10] [(2, .p 1 0), (10, .v (.agg #[.int .u32 0, .int .i64 0, .slice none 0 0]))] [] (by kernel_rfl) trivial ?_
    refine ro_op (by kernel_rfl) (op_store 87 (.tmp 2) (.tmp 10) 1 0 (.v (.agg #[.int .u32 0, .int .i64 0, .slice none 0 0])) [.a (R_bits_Reader b0 a1), .c 1 [U .u32 0, I 0, .v (.slice none 0 0)] 87] (by kernel_rfl) (by kernel_rfl) (by kernel_rfl) (by kernel_rfl) (ro_fin ?_))
    refine ro_q 1 [] [2, 3] [(2, .p 1 0), (3, I 60)] [] (by kernel_rfl) trivial ?_
    refine ro_end (by kernel_rfl) (fin_next ?_)
    refine rn_ret (fin_then_ret ?_)
    refine fin_nil 89 e_api_Metric ?_
    refine fin_ret [.agg #[.int .u32 0, .int .i64 0, .slice none 0 0], .int .i64 60] (by kernel_rfl) fun w' hw' => ?_
    have hq := Option.some.inj hres
    subst hq
    exact ⟨none, 0, rfl, hw'.take (L' := [slA 89 e_api_Metric none 0 [], R_bits_Reader b0 a1]) [0, 0] [cellsA b3714 [.int .u32 0, .int .i64 0, .slice none 0 0] 87] (by kernel_rfl)⟩
  · rw [if_neg (of_decide_eq_false c3717)] at hres
    refine rn_skip (fin_next ?_)
    refine rn_seq ?_
    refine rn_text ?_
    refine ro_q 1 [] [0, 2, 11] [(0, .p 0 0), (2, .p 1 0), (11, .p 0 0)] [] (by kernel_rfl) trivial ?_
    refine bind_elim hres fun y3720 hy3720 hres => ?_
    refine ro_op (by kernel_rfl) (op_call (f := 34) (xs := #[(.tmp 11), (.const (.int .i64 32))]) (ats := #[96, 3]) (d := (some 12)) (args := #[.pointer (some ⟨b0, 0, none⟩), .int .i64 32]) (by kernel_rfl) (by kernel_rfl) (by kernel_rfl) (by kernel_rfl) fun w hw => (bits_Reader_Get_ok (F := [cellsA b3714 [.int .u32 0, .int .i64 0, .slice none 0 0] 87] ++ F) hy3720 (hw.sel [0] (by kernel_rfl : _ = [R_bits_Reader b0 a1] ++ ([cellsA b3714 [.int .u32 0, .int .i64 0, .slice none 0 0] 87] ++ F)))).mono ?_)
    rintro _ w1 ⟨rfl, hw1⟩
    refine ⟨_, [b0, b3714], [.a (R_bits_Reader b0 y3720.2), .c 1 [U .u32 0, I 0, .v (.slice none 0 0)] 87], _, rfl, hw1.eq (by kernel_rfl), rfl, mt_same, ro_fin ?_⟩
    refine ro_q 1 [] [0, 2, 12, 13] [(0, .p 0 0), (2, .p 1 0), (12, U .u32 y3720.1), (13, .p 0 0)] [] (by kernel_rfl) trivial ?_
    refine bind_elim hres fun y3722 hy3722 hres => ?_
    refine ro_op (by kernel_rfl) (op_call (f := 34) (xs := #[(.tmp 13), (.const (.int .i64 16))]) (ats := #[96, 3]) (d := (some 14)) (args := #[.pointer (some ⟨b0, 0, none⟩), .int .i64 16]) (by kernel_rfl) (by kernel_rfl) (by kernel_rfl) (by kernel_rfl) fun w hw => (bits_Reader_Get_ok (F := [cellsA b3714 [.int .u32 0, .int .i64 0, .slice none 0 0] 87] ++ F) hy3722 (hw.sel [0] (by kernel_rfl : _ = [R_bits_Reader b0 y3720.2] ++ ([cellsA b3714 [.int .u32 0, .int .i64 0, .slice none 0 0] 87] ++ F)))).mono ?_)
    rintro _ w1 ⟨rfl, hw1⟩
    refine ⟨_, [b0, b3714], [.a (R_bits_Reader b0 y3722.2), .c 1 [U .u32 0, I 0, .v (.slice none 0 0)] 87], _, rfl, hw1.eq (by kernel_rfl), rfl, mt_same, ro_fin ?_⟩
    refine ro_q 2 [] [0, 2, 16] [(0, .p 0 0), (2, .p 1 0), (16, .v (.agg #[.int .u32 y3720.1, .int .i64 (w64 (y3722.1)), .slice none 0 0]))] [] (by kernel_rfl) trivial ?_
    refine ro_op (by kernel_rfl) (op_alloc 87 4 (.agg #[.int .u32 0, .int .i64 0, .slice none 0 0]) [U .u32 0, I 0, .v (.slice none 0 0)] (fun b3723 => [b0, b3714, b3723]) (fun b3723 => [.c 2 [U .u32 0, I 0, .v (.slice none 0 0)] 87, .a (R_bits_Reader b0 y3722.2), .c 1 [U .u32 0, I 0, .v (.slice none 0 0)] 87]) (by kernel_rfl) (by kernel_rfl) (by kernel_rfl) (by kernel_rfl) 2 (fun _ => by kernel_rfl) (fun _ => mt_bs (by kernel_rfl)) (fun _ => by kernel_rfl) (fun b3723 => ro_fin ?_))
    refine ro_op (by kernel_rfl) (op_store 87 (.tmp 4) (.tmp 16) 2 0 (.v (.agg #[.int .u32 y3720.1, .int .i64 (w64 (y3722.1)), .slice none 0 0])) [.c 2 [U .u32 y3720.1, I (w64 (y3722.1)), .v (.slice none 0 0)] 87, .a (R_bits_Reader b0 y3722.2), .c 1 [U .u32 0, I 0, .v (.slice none 0 0)] 87] (by kernel_rfl) (by kernel_rfl) (by kernel_rfl) (by kernel_rfl) (ro_fin ?_))
    refine ro_end (by kernel_rfl) (fin_next ?_)
    refine rn_seq ?_
    refine rn_text ?_
    refine ro_q 1 [] [0, 2, 4, 17] [(0, .p 0 0), (2, .p 1 0), (4, .p 2 0), (17, .p 0 0)] [] (by kernel_rfl) trivial ?_
    refine bind_elim hres fun y3725 hy3725 hres => ?_
    refine ro_op (by kernel_rfl) (op_call (f := 34) (xs := #[(.tmp 17), (.const (.int .i64 16))]) (ats := #[96, 3]) (d := (some 18)) (args := #[.pointer (some ⟨b0, 0, none⟩), .int .i64 16]) (by kernel_rfl) (by kernel_rfl) (by kernel_rfl) (by kernel_rfl) fun w hw => (bits_Reader_Get_ok (F := [cellsA b3723 [.int .u32 y3720.1, .int .i64 (w64 (y3722.1)), .slice none 0 0] 87, cellsA b3714 [.int .u32 0, .int .i64 0, .slice none 0 0] 87] ++ F) hy3725 (hw.sel [1] (by kernel_rfl : _ = [R_bits_Reader b0 y3722.2] ++ ([cellsA b3723 [.int .u32 y3720.1, .int .i64 (w64 (y3722.1)), .slice none 0 0] 87, cellsA b3714 [.int .u32 0, .int .i64 0, .slice none 0 0] 87] ++ F)))).mono ?_)
    rintro _ w1 ⟨rfl, hw1⟩
    refine ⟨_, [b0, b3714, b3723], [.a (R_bits_Reader b0 y3725.2), .c 2 [U .u32 y3720.1, I (w64 (y3722.1)), .v (.slice none 0 0)] 87, .c 1 [U .u32 0, I 0, .v (.slice none 0 0)] 87], _, rfl, hw1.eq (by kernel_rfl), rfl, mt_same, ro_fin ?_⟩
    refine ro_q 2 [] [0, 2, 4, 5] [(0, .p 0 0), (2, .p 1 0), (4, .p 2 0), (5, I (w64 (y3725.1)))] [] (by kernel_rfl) trivial ?_
    refine ro_end (by kernel_rfl) (fin_next ?_)
    refine rn_seq ?_
    refine rn_block ?_
    refine rn_seq ?_
    refine rn_q [] [0, 2, 4, 5, 20] [(0, .p 0 0), (2, .p 1 0), (4, .p 2 0), (5, I (w64 (y3725.1))), (20, B (decide (4096 < (w64 (y3725.1)))))] [] (by kernel_rfl) trivial (fin_next ?_)
    refine rn_cond (decide (4096 < (w64 (y3725.1)))) (by kernel_rfl) (fun c3726 => ?_) (fun c3726 => ?_)
    · rw [if_pos (of_decide_eq_true c3726)] at hres
      refine rn_seq ?_
      refine rn_text ?_
      refine ro_q 1 [] [2, 23] [(2, .p 1 0), (23, .v (.agg #[.int .u32 0, .int .i64 0, .slice none 0 0]))] [] (by kernel_rfl) trivial ?_
      refine ro_op (by kernel_rfl) (op_store 87 (.tmp 2) (.tmp 23) 1 0 (.v (.agg #[.int .u32 0, .int .i64 0, .slice none 0 0])) [.a (R_bits_Reader b0 y3725.2), .c 2 [U .u32 y3720.1, I (w64 (y3722.1)), .v (.slice none 0 0)] 87, .c 1 [U .u32 0, I 0, .v (.slice none 0 0)] 87] (by kernel_rfl) (by kernel_rfl) (by kernel_rfl) (by kernel_rfl) (ro_fin ?_))
      refine ro_q 1 [] [2, 3] [(2, .p 1 0), (3, I 3)] [] (by kernel_rfl) trivial ?_
      refine ro_end (by kernel_rfl) (fin_next ?_)
      refine rn_ret (fin_block_ret (fin_then_ret ?_))
      refine fin_nil 89 e_api_Metric ?_
      refine fin_ret [.agg #[.int .u32 0, .int .i64 0, .slice none 0 0], .int .i64 3] (by kernel_rfl) fun w' hw' => ?_
      have hq := Option.some.inj hres
      subst hq
      exact ⟨none, 0, rfl, hw'.take (L' := [slA 89 e_api_Metric none 0 [], R_bits_Reader b0 y3725.2]) [0, 0] [cellsA b3723 [.int .u32 y3720.1, .int .i64 (w64 (y3722.1)), .slice none 0 0] 87, cellsA b3714 [.int .u32 0, .int .i64 0, .slice none 0 0] 87] (by kernel_rfl)⟩
    · rw [if_neg (of_decide_eq_false c3726)] at hres
      refine rn_seq ?_
      refine rn_text ?_
      refine ro_q 1 [] [0, 2, 4, 5, 25] [(0, .p 0 0), (2, .p 1 0), (4, .p 2 0), (5, I (w64 (y3725.1))), (25, .p 0 0)] [] (by kernel_rfl) trivial ?_
      refine bind_elim hres fun y3729 hy3729 hres => ?_
      refine ro_op (by kernel_rfl) (op_call (f := 36) (xs := #[(.tmp 25)]) (ats := #[96]) (d := (some 26)) (args := #[.pointer (some ⟨b0, 0, none⟩)]) (by kernel_rfl) (by kernel_rfl) (by kernel_rfl) (by kernel_rfl) fun w hw => (bits_Reader_Left_ok (F := [cellsA b3723 [.int .u32 y3720.1, .int .i64 (w64 (y3722.1)), .slice none 0 0] 87, cellsA b3714 [.int .u32 0, .int .i64 0, .slice none 0 0] 87] ++ F) hy3729 (hw.sel [0] (by kernel_rfl : _ = [R_bits_Reader b0 y3725.2] ++ ([cellsA b3723 [.int .u32 y3720.1, .int .i64 (w64 (y3722.1)), .slice none 0 0] 87, cellsA b3714 [.int .u32 0, .int .i64 0, .slice none 0 0] 87] ++ F)))).mono ?_)
      rintro _ w1 ⟨rfl, hw1⟩
      refine ⟨_, [b0, b3714, b3723], [.a (R_bits_Reader b0 y3725.2), .c 2 [U .u32 y3720.1, I (w64 (y3722.1)), .v (.slice none 0 0)] 87, .c 1 [U .u32 0, I 0, .v (.slice none 0 0)] 87], _, rfl, hw1.eq (by kernel_rfl), rfl, mt_same, ro_fin ?_⟩
      refine ro_q 7 [] [0, 2, 4, 5, 24] [(0, .p 0 0), (2, .p 1 0), (4, .p 2 0), (5, I (w64 (y3725.1))), (24, B (decide (y3729 < (w64 ((w64 ((w64 ((w64 ((w64 (y3725.1)) + 1)).tdiv 2)) * 32)) + 32)))))] [] (by kernel_rfl) trivial ?_
      refine ro_end (by kernel_rfl) (fin_next ?_)
      refine rn_cond (decide (y3729 < (w64 ((w64 ((w64 ((w64 ((w64 (y3725.1)) + 1)).tdiv 2)) * 32)) + 32)))) (by kernel_rfl) (fun c3730 => ?_) (fun c3730 => ?_)
      · rw [if_pos (of_decide_eq_true c3730)] at hres
        refine rn_seq ?_
        refine rn_text ?_
        refine ro_q 1 [] [2, 33] [(2, .p 1 0), (33, .v (.agg #[.int .u32 0, .int .i64 0, .slice none 0 0]))] [] (by kernel_rfl) trivial ?_
        refine ro_op (by kernel_rfl) (op_store 87 (.tmp 2) (.tmp 33) 1 0 (.v (.agg #[.int .u32 0, .int .i64 0, .slice none 0 0])) [.a (R_bits_Reader b0 y3725.2), .c 2 [U .u32 y3720.1, I (w64 (y3722.1)), .v (.slice none 0 0)] 87, .c 1 [U .u32 0, I 0, .v (.slice none 0 0)] 87] (by kernel_rfl) (by kernel_rfl) (by kernel_rfl) (by kernel_rfl) (ro_fin ?_))
        refine ro_q 1 [] [2, 3] [(2, .p 1 0), (3, I 60)] [] (by kernel_rfl) trivial ?_
        refine ro_end (by kernel_rfl) (fin_next ?_)
        refine rn_ret (fin_block_ret (fin_then_ret ?_))
        refine fin_nil 89 e_api_Metric ?_
        refine fin_ret [.agg #[.int .u32 0, .int .i64 0, .slice none 0 0], .int .i64 60] (by kernel_rfl) fun w' hw' => ?_
        have hq := Option.some.inj hres
        subst hq
        exact ⟨none, 0, rfl, hw'.take (L' := [slA 89 e_api_Metric none 0 [], R_bits_Reader b0 y3725.2]) [0, 0] [cellsA b3723 [.int .u32 y3720.1, .int .i64 (w64 (y3722.1)), .slice none 0 0] 87, cellsA b3714 [.int .u32 0, .int .i64 0, .slice none 0 0] 87] (by kernel_rfl)⟩
      · rw [if_neg (of_decide_eq_false c3730)] at hres
        refine rn_skip (fin_block (fin_next ?_))
        refine rn_seq ?_
        refine rn_seq ?_
        refine rn_q [] [0, 2, 4, 5, 34, 35] [(0, .p 0 0), (2, .p 1 0), (4, .p 2 0), (5, I (w64 (y3725.1))), (34, I (w64 (y3725.1))), (35, I 0)] [] (by kernel_rfl) trivial (fin_next ?_)
        refine rn_block ?_
        refine rn_nil 89 e_api_Metric ?_
        refine rn_loop (V := Int × S_bits_Reader × List S_api_Metric × Option Addr × Nat) (J := fun k v => ccfb_block.l6196 y3720 y3722 y3725 k v.1 v.2.1 v.2.2.1 = some r) (sv := fun v => ⟨[b0, b3714, b3723], [(0, .p 0 0), (2, .p 1 0), (4, .p 2 0), (5, I (w64 (y3725.1))), (34, I (w64 (y3725.1))), (35, I v.1)], [.a (slA 89 e_api_Metric v.2.2.2.1 v.2.2.2.2 v.2.2.1), .a (R_bits_Reader b0 v.2.1), .c 2 [U .u32 y3720.1, I (w64 (y3722.1)), .v (.slice v.2.2.2.1 v.2.2.1.length v.2.2.2.2)] 87, .c 1 [U .u32 0, I 0, .v (.slice none 0 0)] 87]⟩) FUEL (0, y3725.2, [], none, 0) hres (fun a w hs => hs.conv [0, 0, 0, 0] (by kernel_rfl) (by kernel_rfl) ⟨[], by kernel_rfl⟩) ?_
        rintro k6196 ⟨x4964, x4965, x4966, A4967, c4967⟩ hres
        rcases k6196 with _ | k6196
        · rw [ccfb_block.l6196] at hres; cases hres
        · rw [ccfb_block.l6196] at hres
          refine rn_seq ?_
          refine rn_q [] [0, 2, 4, 5, 34, 35, 36] [(0, .p 0 0), (2, .p 1 0), (4, .p 2 0), (5, I (w64 (y3725.1))), (34, I (w64 (y3725.1))), (35, I x4964), (36, B (decide (x4964 < (w64 (y3725.1)))))] [] (by kernel_rfl) trivial (fin_next ?_)
          refine rn_seq ?_
          refine rn_cond (decide (x4964 < (w64 (y3725.1)))) (by kernel_rfl) (fun c6197 => ?_) (fun c6197 => ?_)
          · rw [if_pos (of_decide_eq_true c6197)] at hres
            refine rn_skip (fin_next ?_)
            refine rn_seq ?_
            refine rn_block ?_
            refine rn_seq ?_
            refine rn_text ?_
            refine ro_q 1 [] [0, 2, 4, 5, 34, 35, 37] [(0, .p 0 0), (2, .p 1 0), (4, .p 2 0), (5, I (w64 (y3725.1))), (34, I (w64 (y3725.1))), (35, I x4964), (37, .p 0 0)] [] (by kernel_rfl) trivial ?_
            refine bind_elim hres fun y6199 hy6199 hres => ?_
            refine ro_op (by kernel_rfl) (op_call (f := 34) (xs := #[(.tmp 37), (.const (.int .i64 1))]) (ats := #[96, 3]) (d := (some 38)) (args := #[.pointer (some ⟨b0, 0, none⟩), .int .i64 1]) (by kernel_rfl) (by kernel_rfl) (by kernel_rfl) (by kernel_rfl) fun w hw => (bits_Reader_Get_ok (F := [slA 89 e_api_Metric A4967 c4967 x4966, cellsA b3723 [.int .u32 y3720.1, .int .i64 (w64 (y3722.1)), .slice A4967 x4966.length c4967] 87, cellsA b3714 [.int .u32 0, .int .i64 0, .slice none 0 0] 87] ++ F) hy6199 (hw.sel [1] (by kernel_rfl : _ = [R_bits_Reader b0 x4965] ++ ([slA 89 e_api_Metric A4967 c4967 x4966, cellsA b3723 [.int .u32 y3720.1, .int .i64 (w64 (y3722.1)), .slice A4967 x4966.length c4967] 87, cellsA b3714 [.int .u32 0, .int .i64 0, .slice none 0 0] 87] ++ F)))).mono ?_)
            rintro _ w1 ⟨rfl, hw1⟩
            refine ⟨_, [b0, b3714, b3723], [.a (R_bits_Reader b0 y6199.2), .a (slA 89 e_api_Metric A4967 c4967 x4966), .c 2 [U .u32 y3720.1, I (w64 (y3722.1)), .v (.slice A4967 x4966.length c4967)] 87, .c 1 [U .u32 0, I 0, .v (.slice none 0 0)] 87], _, rfl, hw1.eq (by kernel_rfl), rfl, mt_same, ro_fin ?_⟩
            refine ro_q 2 [] [0, 2, 4, 5, 34, 35, 39, 40] [(0, .p 0 0), (2, .p 1 0), (4, .p 2 0), (5, I (w64 (y3725.1))), (34, I (w64 (y3725.1))), (35, I x4964), (39, B (y6199.1 == 1)), (40, .p 0 0)] [] (by kernel_rfl) trivial ?_
            refine bind_elim hres fun y6201 hy6201 hres => ?_
            refine ro_op (by kernel_rfl) (op_call (f := 34) (xs := #[(.tmp 40), (.const (.int .i64 2))]) (ats := #[96, 3]) (d := (some 41)) (args := #[.pointer (some ⟨b0, 0, none⟩), .int .i64 2]) (by kernel_rfl) (by kernel_rfl) (by kernel_rfl) (by kernel_rfl) fun w hw => (bits_Reader_Get_ok (F := [slA 89 e_api_Metric A4967 c4967 x4966, cellsA b3723 [.int .u32 y3720.1, .int .i64 (w64 (y3722.1)), .slice A4967 x4966.length c4967] 87, cellsA b3714 [.int .u32 0, .int .i64 0, .slice none 0 0] 87] ++ F) hy6201 (hw.sel [0] (by kernel_rfl : _ = [R_bits_Reader b0 y6199.2] ++ ([slA 89 e_api_Metric A4967 c4967 x4966, cellsA b3723 [.int .u32 y3720.1, .int .i64 (w64 (y3722.1)), .slice A4967 x4966.length c4967] 87, cellsA b3714 [.int .u32 0, .int .i64 0, .slice none 0 0] 87] ++ F)))).mono ?_)
            rintro _ w1 ⟨rfl, hw1⟩
            refine ⟨_, [b0, b3714, b3723], [.a (R_bits_Reader b0 y6201.2), .a (slA 89 e_api_Metric A4967 c4967 x4966), .c 2 [U .u32 y3720.1, I (w64 (y3722.1)), .v (.slice A4967 x4966.length c4967)] 87, .c 1 [U .u32 0, I 0, .v (.slice none 0 0)] 87], _, rfl, hw1.eq (by kernel_rfl), rfl, mt_same, ro_fin ?_⟩
            refine ro_q 2 [] [0, 2, 4, 5, 34, 35, 39, 42, 43] [(0, .p 0 0), (2, .p 1 0), (4, .p 2 0), (5, I (w64 (y3725.1))), (34, I (w64 (y3725.1))), (35, I x4964), (39, B (y6199.1 == 1)), (42, I (w64 (y6201.1))), (43, .p 0 0)] [] (by kernel_rfl) trivial ?_
            refine bind_elim hres fun y6203 hy6203 hres => ?_
            refine ro_op (by kernel_rfl) (op_call (f := 34) (xs := #[(.tmp 43), (.const (.int .i64 13))]) (ats := #[96, 3]) (d := (some 44)) (args := #[.pointer (some ⟨b0, 0, none⟩), .int .i64 13]) (by kernel_rfl) (by kernel_rfl) (by kernel_rfl) (by kernel_rfl) fun w hw => (bits_Reader_Get_ok (F := [slA 89 e_api_Metric A4967 c4967 x4966, cellsA b3723 [.int .u32 y3720.1, .int .i64 (w64 (y3722.1)), .slice A4967 x4966.length c4967] 87, cellsA b3714 [.int .u32 0, .int .i64 0, .slice none 0 0] 87] ++ F) hy6203 (hw.sel [0] (by kernel_rfl : _ = [R_bits_Reader b0 y6201.2] ++ ([slA 89 e_api_Metric A4967 c4967 x4966, cellsA b3723 [.int .u32 y3720.1, .int .i64 (w64 (y3722.1)), .slice A4967 x4966.length c4967] 87, cellsA b3714 [.int .u32 0, .int .i64 0, .slice none 0 0] 87] ++ F)))).mono ?_)
            rintro _ w1 ⟨rfl, hw1⟩
            refine ⟨_, [b0, b3714, b3723], [.a (R_bits_Reader b0 y6203.2), .a (slA 89 e_api_Metric A4967 c4967 x4966), .c 2 [U .u32 y3720.1, I (w64 (y3722.1)), .v (.slice A4967 x4966.length c4967)] 87, .c 1 [U .u32 0, I 0, .v (.slice none 0 0)] 87], _, rfl, hw1.eq (by kernel_rfl), rfl, mt_same, ro_fin ?_⟩
            refine ro_q 2 [] [0, 2, 4, 5, 34, 35, 46] [(0, .p 0 0), (2, .p 1 0), (4, .p 2 0), (5, I (w64 (y3725.1))), (34, I (w64 (y3725.1))), (35, I x4964), (46, .v (.agg #[.bool (y6199.1 == 1), .int .i64 (w64 (y6201.1)), .int .i64 (w64 (y6203.1))]))] [] (by kernel_rfl) trivial ?_
            refine ro_op (by kernel_rfl) (op_alloc 89 6 (.agg #[.bool false, .int .i64 0, .int .i64 0]) [B false, I 0, I 0] (fun b6204 => [b0, b3714, b3723, b6204]) (fun b6204 => [.c 3 [B false, I 0, I 0] 89, .a (R_bits_Reader b0 y6203.2), .a (slA 89 e_api_Metric A4967 c4967 x4966), .c 2 [U .u32 y3720.1, I (w64 (y3722.1)), .v (.slice A4967 x4966.length c4967)] 87, .c 1 [U .u32 0, I 0, .v (.slice none 0 0)] 87]) (by kernel_rfl) (by kernel_rfl) (by kernel_rfl) (by kernel_rfl) 3 (fun _ => by kernel_rfl) (fun _ => mt_bs (by kernel_rfl)) (fun _ => by kernel_rfl) (fun b6204 => ro_fin ?_))
            refine ro_op (by kernel_rfl) (op_store 89 (.tmp 6) (.tmp 46) 3 0 (.v (.agg #[.bool (y6199.1 == 1), .int .i64 (w64 (y6201.1)), .int .i64 (w64 (y6203.1))])) [.c 3 [B (y6199.1 == 1), I (w64 (y6201.1)), I (w64 (y6203.1))] 89, .a (R_bits_Reader b0 y6203.2), .a (slA 89 e_api_Metric A4967 c4967 x4966), .c 2 [U .u32 y3720.1, I (w64 (y3722.1)), .v (.slice A4967 x4966.length c4967)] 87, .c 1 [U .u32 0, I 0, .v (.slice none 0 0)] 87] (by kernel_rfl) (by kernel_rfl) (by kernel_rfl) (by kernel_rfl) (ro_fin ?_))
            refine ro_end (by kernel_rfl) (fin_next ?_)
            refine rn_join (V := Unit) (J := fun v => ccfb_block.j6814 (ccfb_block.l6196 y3720 y3722 y3725 k6196) x4964 x4966 y6199 y6201 y6203 = some r) (sv := fun v => ⟨[b0, b3714, b3723, b6204], [(0, .p 0 0), (2, .p 1 0), (4, .p 2 0), (5, I (w64 (y3725.1))), (6, .p 3 0), (34, I (w64 (y3725.1))), (35, I x4964)], [.c 3 [B (y6199.1 == 1), I (w64 (y6201.1)), I (w64 (y6203.1))] 89, .a (R_bits_Reader b0 y6203.2), .a (slA 89 e_api_Metric A4967 c4967 x4966), .c 2 [U .u32 y3720.1, I (w64 (y3722.1)), .v (.slice A4967 x4966.length c4967)] 87, .c 1 [U .u32 0, I 0, .v (.slice none 0 0)] 87]⟩) ?_ ?_
            · refine rn_join (V := Bool) (J := fun v => ccfb_block.j6510 (ccfb_block.l6196 y3720 y3722 y3725 k6196) x4964 x4966 y6199 y6201 y6203 v = some r) (sv := fun v => ⟨[b0, b3714, b3723, b6204], [(0, .p 0 0), (2, .p 1 0), (4, .p 2 0), (5, I (w64 (y3725.1))), (6, .p 3 0), (34, I (w64 (y3725.1))), (35, I x4964), (59, B v)], [.c 3 [B (y6199.1 == 1), I (w64 (y6201.1)), I (w64 (y6203.1))] 89, .a (R_bits_Reader b0 y6203.2), .a (slA 89 e_api_Metric A4967 c4967 x4966), .c 2 [U .u32 y3720.1, I (w64 (y3722.1)), .v (.slice A4967 x4966.length c4967)] 87, .c 1 [U .u32 0, I 0, .v (.slice none 0 0)] 87]⟩) ?_ ?_
              · refine rn_text ?_
                refine ro_q 4 [] [0, 2, 4, 5, 6, 34, 35, 50] [(0, .p 0 0), (2, .p 1 0), (4, .p 2 0), (5, I (w64 (y3725.1))), (6, .p 3 0), (34, I (w64 (y3725.1))), (35, I x4964), (50, B (!(y6199.1 == 1)))] [] (by kernel_rfl) trivial ?_
                refine ro_split 50 (!(y6199.1 == 1)) (by kernel_rfl) (fun c6205 => ?_) (fun c6205 => ?_)
                · rw [if_neg (eq_f (nb_t c6205))] at hres
                  refine ro_q 4 [] [0, 2, 4, 5, 6, 34, 35, 50, 54] [(0, .p 0 0), (2, .p 1 0), (4, .p 2 0), (5, I (w64 (y3725.1))), (6, .p 3 0), (34, I (w64 (y3725.1))), (35, I x4964), (50, B true), (54, B ((w64 (y6201.1)) != 0))] [] (by kernel_rfl) trivial ?_
                  refine ro_split 54 ((w64 (y6201.1)) != 0) (by kernel_rfl) (fun c6206 => ?_) (fun c6206 => ?_)
                  · rw [if_neg (ne_t c6206)] at hres
                    refine ro_q 5 [] [0, 2, 4, 5, 6, 34, 35, 59] [(0, .p 0 0), (2, .p 1 0), (4, .p 2 0), (5, I (w64 (y3725.1))), (6, .p 3 0), (34, I (w64 (y3725.1))), (35, I x4964), (59, B true)] [] (by kernel_rfl) trivial ?_
                    refine ro_end (by kernel_rfl) (fin_then ?_)
                    refine fin_join true hres [0, 0, 0, 0, 0] [] (by kernel_rfl) (by kernel_rfl) (by kernel_rfl)
                  · rw [if_pos (ne_f c6206)] at hres
                    refine ro_q 5 [] [0, 2, 4, 5, 6, 34, 35, 59] [(0, .p 0 0), (2, .p 1 0), (4, .p 2 0), (5, I (w64 (y3725.1))), (6, .p 3 0), (34, I (w64 (y3725.1))), (35, I x4964), (59, B ((w64 (y6203.1)) != 0))] [] (by kernel_rfl) trivial ?_
                    refine ro_end (by kernel_rfl) (fin_then ?_)
                    refine fin_join ((w64 (y6203.1)) != 0) hres [0, 0, 0, 0, 0] [] (by kernel_rfl) (by kernel_rfl) (by kernel_rfl)
                · rw [if_pos (eq_t (nb_f c6205))] at hres
                  refine ro_q 9 [] [0, 2, 4, 5, 6, 34, 35, 59] [(0, .p 0 0), (2, .p 1 0), (4, .p 2 0), (5, I (w64 (y3725.1))), (6, .p 3 0), (34, I (w64 (y3725.1))), (35, I x4964), (59, B false)] [] (by kernel_rfl) trivial ?_
                  refine ro_end (by kernel_rfl) (fin_then ?_)
                  refine fin_join false hres [0, 0, 0, 0, 0] [] (by kernel_rfl) (by kernel_rfl) (by kernel_rfl)
              · rintro j6507 hres
                unfold ccfb_block.j6510 at hres
                refine rn_cond (j6507) (by kernel_rfl) (fun c6508 => ?_) (fun c6508 => ?_)
                · rw [if_pos (c6508)] at hres
                  refine rn_seq ?_
                  refine rn_text ?_
                  refine ro_q 1 [] [2, 60] [(2, .p 1 0), (60, .v (.agg #[.int .u32 0, .int .i64 0, .slice none 0 0]))] [] (by kernel_rfl) trivial ?_
                  refine ro_op (by kernel_rfl) (op_store 87 (.tmp 2) (.tmp 60) 1 0 (.v (.agg #[.int .u32 0, .int .i64 0, .slice none 0 0])) [.c 3 [B (y6199.1 == 1), I (w64 (y6201.1)), I (w64 (y6203.1))] 89, .a (R_bits_Reader b0 y6203.2), .a (slA 89 e_api_Metric A4967 c4967 x4966), .c 2 [U .u32 y3720.1, I (w64 (y3722.1)), .v (.slice A4967 x4966.length c4967)] 87, .c 1 [U .u32 0, I 0, .v (.slice none 0 0)] 87] (by kernel_rfl) (by kernel_rfl) (by kernel_rfl) (by kernel_rfl) (ro_fin ?_))
                  refine ro_q 1 [] [2, 3] [(2, .p 1 0), (3, I 70)] [] (by kernel_rfl) trivial ?_
                  refine ro_end (by kernel_rfl) (fin_next ?_)
                  refine rn_ret (fin_then_ret (fin_block_ret (fin_then_ret (fin_then_ret (fin_block_ret (fin_then_ret ?_))))))
                  refine fin_nil 89 e_api_Metric ?_
                  refine fin_ret [.agg #[.int .u32 0, .int .i64 0, .slice none 0 0], .int .i64 70] (by kernel_rfl) fun w' hw' => ?_
                  have hq := Option.some.inj hres
                  subst hq
                  exact ⟨none, 0, rfl, hw'.take (L' := [slA 89 e_api_Metric none 0 [], R_bits_Reader b0 y6203.2]) [0, 1] [cellsA b6204 [.bool (y6199.1 == 1), .int .i64 (w64 (y6201.1)), .int .i64 (w64 (y6203.1))] 89, slA 89 e_api_Metric A4967 c4967 x4966, cellsA b3723 [.int .u32 y3720.1, .int .i64 (w64 (y3722.1)), .slice A4967 x4966.length c4967] 87, cellsA b3714 [.int .u32 0, .int .i64 0, .slice none 0 0] 87] (by kernel_rfl)⟩
                · rw [if_neg (nt_of_f c6508)] at hres
                  refine rn_skip (fin_then ?_)
                  refine fin_join () hres [0, 0, 0, 0, 0] [] (by kernel_rfl) (by kernel_rfl) (by kernel_rfl)
            · rintro ⟨⟩ hres
              unfold ccfb_block.j6814 at hres
              refine rn_text ?_
              refine ro_q 3 [] [0, 2, 4, 5, 34, 35, 62, 63] [(0, .p 0 0), (2, .p 1 0), (4, .p 2 0), (5, I (w64 (y3725.1))), (34, I (w64 (y3725.1))), (35, I x4964), (62, .v (.slice A4967 x4966.length c4967)), (63, .v (.agg #[.bool (y6199.1 == 1), .int .i64 (w64 (y6201.1)), .int .i64 (w64 (y6203.1))]))] [] (by kernel_rfl) trivial ?_
              refine ro_op (by kernel_rfl) (op_bslice (E := e_api_Metric) 85 89 1 #[(0, (.tmp 63))] 64 [(⟨y6199.1 == 1, w64 (y6201.1), w64 (y6203.1)⟩ : S_api_Metric)] (by kernel_rfl) (by kernel_rfl) (by kernel_rfl) rfl (by decide) (by kernel_rfl) (fun b6811 => ro_fin ?_))
              refine bind_elim hres fun y6812 hy6812 hres => ?_
              refine ro_op (by kernel_rfl) (op_append (E := e_api_Metric) (lim := 5864062014805) 85 85 89 (.tmp 62) (.tmp 64) 65 A4967 (.slice (some ⟨b6811, 0, none⟩) 1 1) c4967 x4966 [(⟨y6199.1 == 1, w64 (y6201.1), w64 (y6203.1)⟩ : S_api_Metric)] ((Try.prog.info? 89).get rfl) (((Try.prog.info? 89).get rfl).zero.get rfl) 3 [.a (slA 89 e_api_Metric (some ⟨b6811, 0, none⟩) 1 [(⟨y6199.1 == 1, w64 (y6201.1), w64 (y6203.1)⟩ : S_api_Metric)]), .c 3 [B (y6199.1 == 1), I (w64 (y6201.1)), I (w64 (y6203.1))] 89, .a (R_bits_Reader b0 y6203.2), .c 2 [U .u32 y3720.1, I (w64 (y3722.1)), .v (.slice A4967 x4966.length c4967)] 87, .c 1 [U .u32 0, I 0, .v (.slice none 0 0)] 87] (by kernel_rfl) (by kernel_rfl) (by kernel_rfl) (by kernel_rfl) (by kernel_rfl) (by kernel_rfl) (by kernel_rfl) (by kernel_rfl) (by kernel_rfl) (Nat.le_of_ble_eq_true (by kernel_rfl)) (by decide) hy6812 (by kernel_rfl) (ap_sl (e := 89) (E := e_api_Metric) (B := (some ⟨b6811, 0, none⟩)) (c := 1) (M := [(⟨y6199.1 == 1, w64 (y6201.1), w64 (y6203.1)⟩ : S_api_Metric)]) (by kernel_rfl) (by kernel_rfl) (row_at (U := 89) (E := e_api_Metric) (A := (some ⟨b6811, 0, none⟩)) (c := 1) (L := [(⟨y6199.1 == 1, w64 (y6201.1), w64 (y6203.1)⟩ : S_api_Metric)]) 0 (by kernel_rfl))) (fun A6813 k6813 => ro_fin ?_))
              refine ro_q 1 [] [0, 2, 4, 5, 34, 35, 65, 66] [(0, .p 0 0), (2, .p 1 0), (4, .p 2 0), (5, I (w64 (y3725.1))), (34, I (w64 (y3725.1))), (35, I x4964), (65, .v (.slice A6813 y6812.length k6813)), (66, .p 2 2)] [] (by kernel_rfl) trivial ?_
              refine ro_op (by kernel_rfl) (op_store 85 (.tmp 66) (.tmp 65) 2 2 (.v (.slice A6813 y6812.length k6813)) [.a (slA 89 e_api_Metric A6813 k6813 y6812), .a (slA 89 e_api_Metric (some ⟨b6811, 0, none⟩) 1 [(⟨y6199.1 == 1, w64 (y6201.1), w64 (y6203.1)⟩ : S_api_Metric)]), .c 3 [B (y6199.1 == 1), I (w64 (y6201.1)), I (w64 (y6203.1))] 89, .a (R_bits_Reader b0 y6203.2), .c 2 [U .u32 y3720.1, I (w64 (y3722.1)), .v (.slice A6813 y6812.length k6813)] 87, .c 1 [U .u32 0, I 0, .v (.slice none 0 0)] 87] (by kernel_rfl) (by kernel_rfl) (by kernel_rfl) (by kernel_rfl) (ro_fin ?_))
              refine ro_end (by kernel_rfl) (fin_block (fin_next ?_))
              refine rn_q [] [0, 2, 4, 5, 34, 35] [(0, .p 0 0), (2, .p 1 0), (4, .p 2 0), (5, I (w64 (y3725.1))), (34, I (w64 (y3725.1))), (35, I (w64 (x4964 + 1)))] [] (by kernel_rfl) trivial (fin_then ?_)
              refine fin_loop (w64 (x4964 + 1), y6203.2, y6812, A6813, k6813) hres [0, 2, 2, 2] [slA 89 e_api_Metric (some ⟨b6811, 0, none⟩) 1 [(⟨y6199.1 == 1, w64 (y6201.1), w64 (y6203.1)⟩ : S_api_Metric)], cellsA b6204 [.bool (y6199.1 == 1), .int .i64 (w64 (y6201.1)), .int .i64 (w64 (y6203.1))] 89] (by kernel_rfl) (by kernel_rfl) (by kernel_rfl)
          · rw [if_neg (of_decide_eq_false c6197)] at hres
            refine rn_exit (fin_then_exit (fin_then_exit (fin_block_exit (fin_next ?_))))
            refine rn_join (V := S_bits_Reader) (J := fun v => ccfb_block.j7424 y3720 y3722 x4966 v = some r) (sv := fun v => ⟨[b0, b3714, b3723], [(2, .p 1 0), (4, .p 2 0)], [.a (R_bits_Reader b0 v), .a (slA 89 e_api_Metric A4967 c4967 x4966), .c 2 [U .u32 y3720.1, I (w64 (y3722.1)), .v (.slice A4967 x4966.length c4967)] 87, .c 1 [U .u32 0, I 0, .v (.slice none 0 0)] 87]⟩) ?_ ?_
            · refine rn_join (V := Bool × S_bits_Reader) (J := fun v => ccfb_block.j7122 y3720 y3722 x4966 v.1 v.2 = some r) (sv := fun v => ⟨[b0, b3714, b3723], [(2, .p 1 0), (4, .p 2 0), (75, B v.1)], [.a (R_bits_Reader b0 v.2), .a (slA 89 e_api_Metric A4967 c4967 x4966), .c 2 [U .u32 y3720.1, I (w64 (y3722.1)), .v (.slice A4967 x4966.length c4967)] 87, .c 1 [U .u32 0, I 0, .v (.slice none 0 0)] 87]⟩) ?_ ?_
              · refine rn_text ?_
                refine ro_q 4 [] [0, 2, 4, 71] [(0, .p 0 0), (2, .p 1 0), (4, .p 2 0), (71, B (((w64 (y3725.1)).tmod 2) == 1))] [] (by kernel_rfl) trivial ?_
                refine ro_split 71 (((w64 (y3725.1)).tmod 2) == 1) (by kernel_rfl) (fun c6815 => ?_) (fun c6815 => ?_)
                · rw [if_pos (eq_t c6815)] at hres
                  refine ro_q 1 [] [2, 4, 71, 72] [(2, .p 1 0), (4, .p 2 0), (71, B true), (72, .p 0 0)] [] (by kernel_rfl) trivial ?_
                  refine bind_elim hres fun y6817 hy6817 hres => ?_
                  refine ro_op (by kernel_rfl) (op_call (f := 34) (xs := #[(.tmp 72), (.const (.int .i64 16))]) (ats := #[96, 3]) (d := (some 73)) (args := #[.pointer (some ⟨b0, 0, none⟩), .int .i64 16]) (by kernel_rfl) (by kernel_rfl) (by kernel_rfl) (by kernel_rfl) fun w hw => (bits_Reader_Get_ok (F := [slA 89 e_api_Metric A4967 c4967 x4966, cellsA b3723 [.int .u32 y3720.1, .int .i64 (w64 (y3722.1)), .slice A4967 x4966.length c4967] 87, cellsA b3714 [.int .u32 0, .int .i64 0, .slice none 0 0] 87] ++ F) hy6817 (hw.sel [1] (by kernel_rfl : _ = [R_bits_Reader b0 x4965] ++ ([slA 89 e_api_Metric A4967 c4967 x4966, cellsA b3723 [.int .u32 y3720.1, .int .i64 (w64 (y3722.1)), .slice A4967 x4966.length c4967] 87, cellsA b3714 [.int .u32 0, .int .i64 0, .slice none 0 0] 87] ++ F)))).mono ?_)
                  rintro _ w1 ⟨rfl, hw1⟩
                  refine ⟨_, [b0, b3714, b3723], [.a (R_bits_Reader b0 y6817.2), .a (slA 89 e_api_Metric A4967 c4967 x4966), .c 2 [U .u32 y3720.1, I (w64 (y3722.1)), .v (.slice A4967 x4966.length c4967)] 87, .c 1 [U .u32 0, I 0, .v (.slice none 0 0)] 87], _, rfl, hw1.eq (by kernel_rfl), rfl, mt_same, ro_fin ?_⟩
                  refine ro_q 2 [] [2, 4, 75] [(2, .p 1 0), (4, .p 2 0), (75, B (y6817.1 != 0))] [] (by kernel_rfl) trivial ?_
                  refine ro_end (by kernel_rfl) (fin_then ?_)
                  refine fin_join (y6817.1 != 0, y6817.2) hres [0, 0, 0, 0] [] (by kernel_rfl) (by kernel_rfl) (by kernel_rfl)
                · rw [if_neg (eq_f c6815)] at hres
                  refine ro_q 4 [] [2, 4, 75] [(2, .p 1 0), (4, .p 2 0), (75, B false)] [] (by kernel_rfl) trivial ?_
                  refine ro_end (by kernel_rfl) (fin_then ?_)
                  refine fin_join (false, x4965) hres [1, 0, 0, 0] [] (by kernel_rfl) (by kernel_rfl) (by kernel_rfl)
              · rintro ⟨j7118, j7119⟩ hres
                unfold ccfb_block.j7122 at hres
                refine rn_cond (j7118) (by kernel_rfl) (fun c7120 => ?_) (fun c7120 => ?_)
                · rw [if_pos (c7120)] at hres
                  refine rn_seq ?_
                  refine rn_text ?_
                  refine ro_q 1 [] [2, 76] [(2, .p 1 0), (76, .v (.agg #[.int .u32 0, .int .i64 0, .slice none 0 0]))] [] (by kernel_rfl) trivial ?_
                  refine ro_op (by kernel_rfl) (op_store 87 (.tmp 2) (.tmp 76) 1 0 (.v (.agg #[.int .u32 0, .int .i64 0, .slice none 0 0])) [.a (R_bits_Reader b0 j7119), .a (slA 89 e_api_Metric A4967 c4967 x4966), .c 2 [U .u32 y3720.1, I (w64 (y3722.1)), .v (.slice A4967 x4966.length c4967)] 87, .c 1 [U .u32 0, I 0, .v (.slice none 0 0)] 87] (by kernel_rfl) (by kernel_rfl) (by kernel_rfl) (by kernel_rfl) (ro_fin ?_))
                  refine ro_q 1 [] [2, 3] [(2, .p 1 0), (3, I 91)] [] (by kernel_rfl) trivial ?_
                  refine ro_end (by kernel_rfl) (fin_next ?_)
                  refine rn_ret (fin_then_ret ?_)
                  refine fin_nil 89 e_api_Metric ?_
                  refine fin_ret [.agg #[.int .u32 0, .int .i64 0, .slice none 0 0], .int .i64 91] (by kernel_rfl) fun w' hw' => ?_
                  have hq := Option.some.inj hres
                  subst hq
                  exact ⟨none, 0, rfl, hw'.take (L' := [slA 89 e_api_Metric none 0 [], R_bits_Reader b0 j7119]) [0, 0] [slA 89 e_api_Metric A4967 c4967 x4966, cellsA b3723 [.int .u32 y3720.1, .int .i64 (w64 (y3722.1)), .slice A4967 x4966.length c4967] 87, cellsA b3714 [.int .u32 0, .int .i64 0, .slice none 0 0] 87] (by kernel_rfl)⟩
                · rw [if_neg (nt_of_f c7120)] at hres
                  refine rn_skip (fin_then ?_)
                  refine fin_join j7119 hres [0, 0, 0, 0] [] (by kernel_rfl) (by kernel_rfl) (by kernel_rfl)
            · rintro j7423 hres
              unfold ccfb_block.j7424 at hres
              refine rn_seq ?_
              refine rn_text ?_
              refine ro_q 1 [] [2, 77] [(2, .p 1 0), (77, .v (.agg #[.int .u32 y3720.1, .int .i64 (w64 (y3722.1)), .slice A4967 x4966.length c4967]))] [] (by kernel_rfl) trivial ?_
              refine ro_op (by kernel_rfl) (op_store 87 (.tmp 2) (.tmp 77) 1 0 (.v (.agg #[.int .u32 y3720.1, .int .i64 (w64 (y3722.1)), .slice A4967 x4966.length c4967])) [.a (R_bits_Reader b0 j7423), .a (slA 89 e_api_Metric A4967 c4967 x4966), .c 2 [U .u32 y3720.1, I (w64 (y3722.1)), .v (.slice A4967 x4966.length c4967)] 87, .c 1 [U .u32 y3720.1, I (w64 (y3722.1)), .v (.slice A4967 x4966.length c4967)] 87] (by kernel_rfl) (by kernel_rfl) (by kernel_rfl) (by kernel_rfl) (ro_fin ?_))
              refine ro_q 1 [] [2, 3] [(2, .p 1 0), (3, I 0)] [] (by kernel_rfl) trivial ?_
              refine ro_end (by kernel_rfl) (fin_next ?_)
              refine rn_ret ?_
              refine fin_ret [.agg #[.int .u32 y3720.1, .int .i64 (w64 (y3722.1)), .slice A4967 x4966.length c4967], .int .i64 0] (by kernel_rfl) fun w' hw' => ?_
              have hq := Option.some.inj hres
              subst hq
              exact ⟨A4967, c4967, rfl, hw'.take (L' := [slA 89 e_api_Metric A4967 c4967 x4966, R_bits_Reader b0 j7423]) [1, 0] [cellsA b3723 [.int .u32 y3720.1, .int .i64 (w64 (y3722.1)), .slice A4967 x4966.length c4967] 87, cellsA b3714 [.int .u32 y3720.1, .int .i64 (w64 (y3722.1)), .slice A4967 x4966.length c4967] 87] (by kernel_rfl)⟩
structure S_api_Ccfb where
  Sender : Int
  Blocks : List S_api_Block
  Stamp : Int
def n_api_Block : Nest S_api_Block (Option Addr × Nat) := ⟨3, fun x g => [.int .u32 x.Ssrc, .int .i64 x.First, .slice g.1 x.Metrics.length g.2], fun _ _ => rfl, fun _ _ v hv => by simp at hv; rcases hv with rfl | rfl | rfl <;> rfl, by decide, fun x g => [slA 89 e_api_Metric g.1 g.2 x.Metrics]⟩
def n_api_Block.ro (w0 : World) (F : List Asn) (G : List (S_api_Block × Option Addr × Nat)) : Prop := ∀ x g, (x, g) ∈ G → RowT w0 F e_api_Metric g.1 g.2 x.Metrics
theorem n_api_Block.ro.app {w0 : World} {X F : List Asn} {G : List (S_api_Block × Option Addr × Nat)} (h : n_api_Block.ro w0 F G) : n_api_Block.ro w0 (X ++ F) G := fun x g hm => (h x g hm).app
theorem n_api_Block.own {w0 : World} {Ls : List Asn} {G : List (S_api_Block × Option Addr × Nat)} (i : Nat) (h : Ls[i]? = some (kids n_api_Block G)) : n_api_Block.ro w0 Ls G := fun x g hm => kids_row i 0 h hm rfl
/- 25 flywheel/ccfb.Decode -/
def ccfb_Decode.l51 (y13 : Int × S_bits_Reader) : Nat → (List S_api_Block) → S_bits_Reader → Option (S_api_Ccfb × Int)
  | 0, _, _ => none
  | k + 1, x32, x34 =>
    (bits_Reader_Left x34).bind fun y53 =>
  (if 32 < y53 then (if (x32.length : Int) = 16 then some ((⟨0, [], 0⟩ : S_api_Ccfb), 3) else (ccfb_block x34).bind fun y58 =>
  (if y58.2.1 = 0 then (cat 3518437208883 x32 [y58.1]).bind fun y64 =>
  ccfb_Decode.l51 y13 k y64 y58.2.2 else some ((⟨0, [], 0⟩ : S_api_Ccfb), y58.2.1))) else (bits_Reader_Get x34 32).bind fun y67 =>
  some ((⟨y13.1, x32, y67.1⟩ : S_api_Ccfb), 0))
def ccfb_Decode (a1 : ByteArray) : Option (S_api_Ccfb × Int) :=
  (if 65536 < (a1.size : Int) then some ((⟨0, [], 0⟩ : S_api_Ccfb), 2) else (if ((a1.size : Int).tmod 4) = 0 then (if (a1.size : Int) < 8 then some ((⟨0, [], 0⟩ : S_api_Ccfb), 60) else (bits_Read a1).bind fun y10 =>
  (bits_Reader_Get y10 32).bind fun y13 =>
  ccfb_Decode.l51 y13 FUEL [] y13.2) else some ((⟨0, [], 0⟩ : S_api_Ccfb), 90)))
theorem ccfb_Decode_ok {a1 : ByteArray} {r : S_api_Ccfb × Int} (hres : ccfb_Decode a1 = some r) {w0 w : World} {F : List Asn} (hw : SH w0 w (F)) :
    Calls Try.prog 25 #[.string a1] w fun e w' => ∃ A69 k69, e = .returned (.tuple #[.agg #[.int .u32 r.1.Sender, .slice A69 r.1.Blocks.length k69, .int .u32 r.1.Stamp], .int .i64 r.2]) ∧ SH w0 w' ([slN 87 n_api_Block A69 k69 r.1.Blocks] ++ F) := by
  refine fw_enter (n := 56) (bs := []) (env := [(0, S a1)]) (H := []) (F := F) Try.func25 rfl (by kernel_rfl) (by kernel_rfl) (by kernel_rfl) (hw.eq (by kernel_rfl)) ?_
  unfold ccfb_Decode at hres
  refine rn_seq ?_
  refine rn_text ?_
  refine ro_op (by kernel_rfl) (op_alloc 75 2 (.agg #[.int .u32 0, .slice none 0 0, .int .u32 0]) [U .u32 0, .v (.slice none 0 0), U .u32 0] (fun b2 => [b2]) (fun b2 => [.c 0 [U .u32 0, .v (.slice none 0 0), U .u32 0] 75]) (by kernel_rfl) (by kernel_rfl) (by kernel_rfl) (by kernel_rfl) 0 (fun _ => by kernel_rfl) (fun _ => mt_bs (by kernel_rfl)) (fun _ => by kernel_rfl) (fun b2 => ro_fin ?_))
  refine ro_q 1 [] [0, 2] [(0, S a1), (2, .p 0 0)] [] (by kernel_rfl) trivial ?_
  refine ro_end (by kernel_rfl) (fin_next ?_)
  refine rn_scope ?_
  refine rn_seq ?_
  refine rn_block ?_
  refine rn_seq ?_
  refine rn_q [] [0, 2, 8] [(0, S a1), (2, .p 0 0), (8, B (decide (65536 < (a1.size : Int))))] [] (by kernel_rfl) trivial (fin_next ?_)
  refine rn_cond (decide (65536 < (a1.size : Int))) (by kernel_rfl) (fun c3 => ?_) (fun c3 => ?_)
  · rw [if_pos (of_decide_eq_true c3)] at hres
    refine rn_seq ?_
    refine rn_text ?_
    refine ro_q 1 [] [2, 12] [(2, .p 0 0), (12, .v (.agg #[.int .u32 0, .slice none 0 0, .int .u32 0]))] [] (by kernel_rfl) trivial ?_
    refine ro_op (by kernel_rfl) (op_store 75 (.tmp 2) (.tmp 12) 0 0 (.v (.agg #[.int .u32 0, .slice none 0 0, .int .u32 0])) [.c 0 [U .u32 0, .v (.slice none 0 0), U .u32 0] 75] (by kernel_rfl) (by kernel_rfl) (by kernel_rfl) (by kernel_rfl) (ro_fin ?_))
    refine ro_q 1 [] [2, 3] [(2, .p 0 0), (3, I 2)] [] (by kernel_rfl) trivial ?_
    refine ro_end (by kernel_rfl) (fin_next ?_)
    refine rn_ret (fin_block_ret (fin_then_ret (fin_scope_ret ?_)))
    refine fin_nilN 87 n_api_Block ?_
    refine fin_ret [.agg #[.int .u32 0, .slice none 0 0, .int .u32 0], .int .i64 2] (by kernel_rfl) fun w' hw' => ?_
    have hq := Option.some.inj hres
    subst hq
    exact ⟨none, 0, rfl, hw'.take (L' := [slN 87 n_api_Block none 0 []]) [0] [cellsA b2 [.int .u32 0, .slice none 0 0, .int .u32 0] 75] (by kernel_rfl)⟩
  · rw [if_neg (of_decide_eq_false c3)] at hres
    refine rn_seq ?_
    refine rn_q [] [0, 2, 13] [(0, S a1), (2, .p 0 0), (13, B (((a1.size : Int).tmod 4) != 0))] [] (by kernel_rfl) trivial (fin_next ?_)
    refine rn_cond (((a1.size : Int).tmod 4) != 0) (by kernel_rfl) (fun c5 => ?_) (fun c5 => ?_)
    · rw [if_neg (ne_t c5)] at hres
      refine rn_seq ?_
      refine rn_text ?_
      refine ro_q 1 [] [2, 18] [(2, .p 0 0), (18, .v (.agg #[.int .u32 0, .slice none 0 0, .int .u32 0]))] [] (by kernel_rfl) trivial ?_
      refine ro_op (by kernel_rfl) (op_store 75 (.tmp 2) (.tmp 18) 0 0 (.v (.agg #[.int .u32 0, .slice none 0 0, .int .u32 0])) [.c 0 [U .u32 0, .v (.slice none 0 0), U .u32 0] 75] (by kernel_rfl) (by kernel_rfl) (by kernel_rfl) (by kernel_rfl) (ro_fin ?_))
      refine ro_q 1 [] [2, 3] [(2, .p 0 0), (3, I 90)] [] (by kernel_rfl) trivial ?_
      refine ro_end (by kernel_rfl) (fin_next ?_)
      refine rn_ret (fin_block_ret (fin_then_ret (fin_scope_ret ?_)))
      refine fin_nilN 87 n_api_Block ?_
      refine fin_ret [.agg #[.int .u32 0, .slice none 0 0, .int .u32 0], .int .i64 90] (by kernel_rfl) fun w' hw' => ?_
      have hq := Option.some.inj hres
      subst hq
      exact ⟨none, 0, rfl, hw'.take (L' := [slN 87 n_api_Block none 0 []]) [0] [cellsA b2 [.int .u32 0, .slice none 0 0, .int .u32 0] 75] (by kernel_rfl)⟩
    · rw [if_pos (ne_f c5)] at hres
      refine rn_seq ?_
      refine rn_q [] [0, 2, 19] [(0, S a1), (2, .p 0 0), (19, B (decide ((a1.size : Int) < 8)))] [] (by kernel_rfl) trivial (fin_next ?_)
      refine rn_cond (decide ((a1.size : Int) < 8)) (by kernel_rfl) (fun c7 => ?_) (fun c7 => ?_)
      · rw [if_pos (of_decide_eq_true c7)] at hres
        refine rn_seq ?_
        refine rn_text ?_
        refine ro_q 1 [] [2, 23] [(2, .p 0 0), (23, .v (.agg #[.int .u32 0, .slice none 0 0, .int .u32 0]))] [] (by kernel_rfl) trivial ?_
        refine ro_op (by kernel_rfl) (op_store 75 (.tmp 2) (.tmp 23) 0 0 (.v (.agg #[.int .u32 0, .slice none 0 0, .int .u32 0])) [.c 0 [U .u32 0, .v (.slice none 0 0), U .u32 0] 75] (by kernel_rfl) (by kernel_rfl) (by kernel_rfl) (by kernel_rfl) (ro_fin ?_))
        refine ro_q 1 [] [2, 3] [(2, .p 0 0), (3, I 60)] [] (by kernel_rfl) trivial ?_
        refine ro_end (by kernel_rfl) (fin_next ?_)
        refine rn_ret (fin_block_ret (fin_then_ret (fin_scope_ret ?_)))
        refine fin_nilN 87 n_api_Block ?_
        refine fin_ret [.agg #[.int .u32 0, .slice none 0 0, .int .u32 0], .int .i64 60] (by kernel_rfl) fun w' hw' => ?_
        have hq := Option.some.inj hres
        subst hq
        exact ⟨none, 0, rfl, hw'.take (L' := [slN 87 n_api_Block none 0 []]) [0] [cellsA b2 [.int .u32 0, .slice none 0 0, .int .u32 0] 75] (by kernel_rfl)⟩
      · rw [if_neg (of_decide_eq_false c7)] at hres
        refine rn_skip (fin_block (fin_next ?_))
        refine rn_seq ?_
        refine rn_text ?_
        refine ro_q 1 [] [2, 24] [(2, .p 0 0), (24, S a1)] [] (by kernel_rfl) trivial ?_
        refine bind_elim hres fun y10 hy10 hres => ?_
        refine ro_op (by kernel_rfl) (op_callp (f := 33) (xs := #[(.tmp 24)]) (ats := #[9]) (d := (some 25)) (args := #[.string a1]) (by kernel_rfl) (by kernel_rfl) (by kernel_rfl) (by kernel_rfl) fun w hw => (bits_Read_ok hy10 hw).mono ?_)
        rintro _ w1 ⟨b11, rfl, hw1⟩
        refine ⟨_, [b2, b11], [.a (R_bits_Reader b11 y10), .c 0 [U .u32 0, .v (.slice none 0 0), U .u32 0] 75], _, [(25, .p 1 0), (2, .p 0 0), (24, S a1)], rfl, hw1.eq (by kernel_rfl), rfl, mt_conv (by kernel_rfl) (by kernel_rfl), ro_fin ?_⟩
        refine ro_q 1 [] [2, 4] [(2, .p 0 0), (4, .p 1 0)] [] (by kernel_rfl) trivial ?_
        refine ro_end (by kernel_rfl) (fin_next ?_)
        refine rn_seq ?_
        refine rn_text ?_
        refine ro_q 1 [] [2, 4, 26] [(2, .p 0 0), (4, .p 1 0), (26, .p 1 0)] [] (by kernel_rfl) trivial ?_
        refine bind_elim hres fun y13 hy13 hres => ?_
        refine ro_op (by kernel_rfl) (op_call (f := 34) (xs := #[(.tmp 26), (.const (.int .i64 32))]) (ats := #[96, 3]) (d := (some 27)) (args := #[.pointer (some ⟨b11, 0, none⟩), .int .i64 32]) (by kernel_rfl) (by kernel_rfl) (by kernel_rfl) (by kernel_rfl) fun w hw => (bits_Reader_Get_ok (F := [cellsA b2 [.int .u32 0, .slice none 0 0, .int .u32 0] 75] ++ F) hy13 (hw.sel [0] (by kernel_rfl : _ = [R_bits_Reader b11 y10] ++ ([cellsA b2 [.int .u32 0, .slice none 0 0, .int .u32 0] 75] ++ F)))).mono ?_)
        rintro _ w1 ⟨rfl, hw1⟩
        refine ⟨_, [b2, b11], [.a (R_bits_Reader b11 y13.2), .c 0 [U .u32 0, .v (.slice none 0 0), U .u32 0] 75], _, rfl, hw1.eq (by kernel_rfl), rfl, mt_same, ro_fin ?_⟩
        refine ro_q 1 [] [2, 4, 28] [(2, .p 0 0), (4, .p 1 0), (28, .v (.agg #[.int .u32 y13.1, .slice none 0 0, .int .u32 0]))] [] (by kernel_rfl) trivial ?_
        refine ro_op (by kernel_rfl) (op_alloc 75 5 (.agg #[.int .u32 0, .slice none 0 0, .int .u32 0]) [U .u32 0, .v (.slice none 0 0), U .u32 0] (fun b14 => [b2, b11, b14]) (fun b14 => [.c 2 [U .u32 0, .v (.slice none 0 0), U .u32 0] 75, .a (R_bits_Reader b11 y13.2), .c 0 [U .u32 0, .v (.slice none 0 0), U .u32 0] 75]) (by kernel_rfl) (by kernel_rfl) (by kernel_rfl) (by kernel_rfl) 2 (fun _ => by kernel_rfl) (fun _ => mt_bs (by kernel_rfl)) (fun _ => by kernel_rfl) (fun b14 => ro_fin ?_))
        refine ro_op (by kernel_rfl) (op_store 75 (.tmp 5) (.tmp 28) 2 0 (.v (.agg #[.int .u32 y13.1, .slice none 0 0, .int .u32 0])) [.c 2 [U .u32 y13.1, .v (.slice none 0 0), U .u32 0] 75, .a (R_bits_Reader b11 y13.2), .c 0 [U .u32 0, .v (.slice none 0 0), U .u32 0] 75] (by kernel_rfl) (by kernel_rfl) (by kernel_rfl) (by kernel_rfl) (ro_fin ?_))
        refine ro_end (by kernel_rfl) (fin_next ?_)
        refine rn_nilN 87 n_api_Block ?_
        refine rn_label (by kernel_rfl) (V := List S_api_Block × S_bits_Reader × Option Addr × Nat) (J := fun k v => ccfb_Decode.l51 y13 k v.1 v.2.1 = some r) (sv := fun v => ⟨[b2, b11, b14], [(2, .p 0 0), (4, .p 1 0), (5, .p 2 0)], [.a (slN 87 n_api_Block v.2.2.1 v.2.2.2 v.1), .c 2 [U .u32 y13.1, .v (.slice v.2.2.1 v.1.length v.2.2.2), U .u32 0] 75, .a (R_bits_Reader b11 v.2.1), .c 0 [U .u32 0, .v (.slice none 0 0), U .u32 0] 75]⟩) FUEL ([], y13.2, none, 0) hres (fun a w hs => hs.conv [0, 0, 0, 0] (by kernel_rfl) (by kernel_rfl) ⟨[], by kernel_rfl⟩) ?_
        rintro k51 ⟨x32, x34, A33, c33⟩ hres
        rcases k51 with _ | k51
        · rw [ccfb_Decode.l51] at hres; cases hres
        · rw [ccfb_Decode.l51] at hres
          refine rn_seq ?_
          refine rn_seq ?_
          refine rn_text ?_
          refine ro_q 1 [] [2, 4, 5, 29] [(2, .p 0 0), (4, .p 1 0), (5, .p 2 0), (29, .p 1 0)] [] (by kernel_rfl) trivial ?_
          refine bind_elim hres fun y53 hy53 hres => ?_
          refine ro_op (by kernel_rfl) (op_call (f := 36) (xs := #[(.tmp 29)]) (ats := #[96]) (d := (some 30)) (args := #[.pointer (some ⟨b11, 0, none⟩)]) (by kernel_rfl) (by kernel_rfl) (by kernel_rfl) (by kernel_rfl) fun w hw => (bits_Reader_Left_ok (F := [slN 87 n_api_Block A33 c33 x32, cellsA b14 [.int .u32 y13.1, .slice A33 x32.length c33, .int .u32 0] 75, cellsA b2 [.int .u32 0, .slice none 0 0, .int .u32 0] 75] ++ F) hy53 (hw.sel [2] (by kernel_rfl : _ = [R_bits_Reader b11 x34] ++ ([slN 87 n_api_Block A33 c33 x32, cellsA b14 [.int .u32 y13.1, .slice A33 x32.length c33, .int .u32 0] 75, cellsA b2 [.int .u32 0, .slice none 0 0, .int .u32 0] 75] ++ F)))).mono ?_)
          rintro _ w1 ⟨rfl, hw1⟩
          refine ⟨_, [b2, b11, b14], [.a (R_bits_Reader b11 x34), .a (slN 87 n_api_Block A33 c33 x32), .c 2 [U .u32 y13.1, .v (.slice A33 x32.length c33), U .u32 0] 75, .c 0 [U .u32 0, .v (.slice none 0 0), U .u32 0] 75], _, rfl, hw1.eq (by kernel_rfl), rfl, mt_same, ro_fin ?_⟩
          refine ro_q 1 [] [2, 4, 5, 31] [(2, .p 0 0), (4, .p 1 0), (5, .p 2 0), (31, B (decide (32 < y53)))] [] (by kernel_rfl) trivial ?_
          refine ro_end (by kernel_rfl) (fin_next ?_)
          refine rn_cond (decide (32 < y53)) (by kernel_rfl) (fun c54 => ?_) (fun c54 => ?_)
          · rw [if_pos (of_decide_eq_true c54)] at hres
            refine rn_seq ?_
            refine rn_seq ?_
            refine rn_q [] [2, 4, 5, 35] [(2, .p 0 0), (4, .p 1 0), (5, .p 2 0), (35, B ((x32.length : Int) == 16))] [] (by kernel_rfl) trivial (fin_next ?_)
            refine rn_cond ((x32.length : Int) == 16) (by kernel_rfl) (fun c55 => ?_) (fun c55 => ?_)
            · rw [if_pos (eq_t c55)] at hres
              refine rn_seq ?_
              refine rn_text ?_
              refine ro_q 1 [] [2, 36] [(2, .p 0 0), (36, .v (.agg #[.int .u32 0, .slice none 0 0, .int .u32 0]))] [] (by kernel_rfl) trivial ?_
              refine ro_op (by kernel_rfl) (op_store 75 (.tmp 2) (.tmp 36) 0 0 (.v (.agg #[.int .u32 0, .slice none 0 0, .int .u32 0])) [.a (R_bits_Reader b11 x34), .a (slN 87 n_api_Block A33 c33 x32), .c 2 [U .u32 y13.1, .v (.slice A33 x32.length c33), U .u32 0] 75, .c 0 [U .u32 0, .v (.slice none 0 0), U .u32 0] 75] (by kernel_rfl) (by kernel_rfl) (by kernel_rfl) (by kernel_rfl) (ro_fin ?_))
              refine ro_q 1 [] [2, 3] [(2, .p 0 0), (3, I 3)] [] (by kernel_rfl) trivial ?_
              refine ro_end (by kernel_rfl) (fin_next ?_)
              refine rn_ret (fin_then_ret (fin_then_ret (fin_scope_ret ?_)))
              refine fin_nilN 87 n_api_Block ?_
              refine fin_ret [.agg #[.int .u32 0, .slice none 0 0, .int .u32 0], .int .i64 3] (by kernel_rfl) fun w' hw' => ?_
              have hq := Option.some.inj hres
              subst hq
              exact ⟨none, 0, rfl, hw'.take (L' := [slN 87 n_api_Block none 0 []]) [0] [R_bits_Reader b11 x34, slN 87 n_api_Block A33 c33 x32, cellsA b14 [.int .u32 y13.1, .slice A33 x32.length c33, .int .u32 0] 75, cellsA b2 [.int .u32 0, .slice none 0 0, .int .u32 0] 75] (by kernel_rfl)⟩
            · rw [if_neg (eq_f c55)] at hres
              refine rn_skip (fin_next ?_)
              refine rn_seq ?_
              refine rn_text ?_
              refine ro_q 1 [] [2, 4, 5, 38] [(2, .p 0 0), (4, .p 1 0), (5, .p 2 0), (38, .p 1 0)] [] (by kernel_rfl) trivial ?_
              refine bind_elim hres fun y58 hy58 hres => ?_
              refine ro_op (by kernel_rfl) (op_call (f := 37) (xs := #[(.tmp 38)]) (ats := #[96]) (d := (some 39)) (args := #[.pointer (some ⟨b11, 0, none⟩)]) (by kernel_rfl) (by kernel_rfl) (by kernel_rfl) (by kernel_rfl) fun w hw => (ccfb_block_ok (F := [slN 87 n_api_Block A33 c33 x32, cellsA b14 [.int .u32 y13.1, .slice A33 x32.length c33, .int .u32 0] 75, cellsA b2 [.int .u32 0, .slice none 0 0, .int .u32 0] 75] ++ F) hy58 (hw.sel [0] (by kernel_rfl : _ = [R_bits_Reader b11 x34] ++ ([slN 87 n_api_Block A33 c33 x32, cellsA b14 [.int .u32 y13.1, .slice A33 x32.length c33, .int .u32 0] 75, cellsA b2 [.int .u32 0, .slice none 0 0, .int .u32 0] 75] ++ F)))).mono ?_)
              rintro _ w1 ⟨A59, k59, rfl, hw1⟩
              refine ⟨_, [b2, b11, b14], [.a (slA 89 e_api_Metric A59 k59 y58.1.Metrics), .a (R_bits_Reader b11 y58.2.2), .a (slN 87 n_api_Block A33 c33 x32), .c 2 [U .u32 y13.1, .v (.slice A33 x32.length c33), U .u32 0] 75, .c 0 [U .u32 0, .v (.slice none 0 0), U .u32 0] 75], _, rfl, hw1.eq (by kernel_rfl), rfl, mt_same, ro_fin ?_⟩
              refine ro_q 3 [] [2, 4, 5, 40, 41] [(2, .p 0 0), (4, .p 1 0), (5, .p 2 0), (40, .v (.agg #[.int .u32 y58.1.Ssrc, .int .i64 y58.1.First, .slice A59 y58.1.Metrics.length k59])), (41, I y58.2.1)] [] (by kernel_rfl) trivial ?_
              refine ro_op (by kernel_rfl) (op_alloc 87 6 (.agg #[.int .u32 0, .int .i64 0, .slice none 0 0]) [U .u32 0, I 0, .v (.slice none 0 0)] (fun b60 => [b2, b11, b14, b60]) (fun b60 => [.c 3 [U .u32 0, I 0, .v (.slice none 0 0)] 87, .a (slA 89 e_api_Metric A59 k59 y58.1.Metrics), .a (R_bits_Reader b11 y58.2.2), .a (slN 87 n_api_Block A33 c33 x32), .c 2 [U .u32 y13.1, .v (.slice A33 x32.length c33), U .u32 0] 75, .c 0 [U .u32 0, .v (.slice none 0 0), U .u32 0] 75]) (by kernel_rfl) (by kernel_rfl) (by kernel_rfl) (by kernel_rfl) 3 (fun _ => by kernel_rfl) (fun _ => mt_bs (by kernel_rfl)) (fun _ => by kernel_rfl) (fun b60 => ro_fin ?_))
              refine ro_op (by kernel_rfl) (op_store 87 (.tmp 6) (.tmp 40) 3 0 (.v (.agg #[.int .u32 y58.1.Ssrc, .int .i64 y58.1.First, .slice A59 y58.1.Metrics.length k59])) [.c 3 [U .u32 y58.1.Ssrc, I y58.1.First, .v (.slice A59 y58.1.Metrics.length k59)] 87, .a (slA 89 e_api_Metric A59 k59 y58.1.Metrics), .a (R_bits_Reader b11 y58.2.2), .a (slN 87 n_api_Block A33 c33 x32), .c 2 [U .u32 y13.1, .v (.slice A33 x32.length c33), U .u32 0] 75, .c 0 [U .u32 0, .v (.slice none 0 0), U .u32 0] 75] (by kernel_rfl) (by kernel_rfl) (by kernel_rfl) (by kernel_rfl) (ro_fin ?_))
              refine ro_q 1 [] [2, 4, 5, 6, 7] [(2, .p 0 0), (4, .p 1 0), (5, .p 2 0), (6, .p 3 0), (7, I y58.2.1)] [] (by kernel_rfl) trivial ?_
              refine ro_end (by kernel_rfl) (fin_next ?_)
              refine rn_seq ?_
              refine rn_seq ?_
              refine rn_q [] [2, 4, 5, 6, 7, 43] [(2, .p 0 0), (4, .p 1 0), (5, .p 2 0), (6, .p 3 0), (7, I y58.2.1), (43, B (y58.2.1 != 0))] [] (by kernel_rfl) trivial (fin_next ?_)
              refine rn_cond (y58.2.1 != 0) (by kernel_rfl) (fun c61 => ?_) (fun c61 => ?_)
              · rw [if_neg (ne_t c61)] at hres
                refine rn_seq ?_
                refine rn_text ?_
                refine ro_q 2 [] [2, 44, 45] [(2, .p 0 0), (44, .v (.agg #[.int .u32 0, .slice none 0 0, .int .u32 0])), (45, I y58.2.1)] [] (by kernel_rfl) trivial ?_
                refine ro_op (by kernel_rfl) (op_store 75 (.tmp 2) (.tmp 44) 0 0 (.v (.agg #[.int .u32 0, .slice none 0 0, .int .u32 0])) [.c 3 [U .u32 y58.1.Ssrc, I y58.1.First, .v (.slice A59 y58.1.Metrics.length k59)] 87, .a (slA 89 e_api_Metric A59 k59 y58.1.Metrics), .a (R_bits_Reader b11 y58.2.2), .a (slN 87 n_api_Block A33 c33 x32), .c 2 [U .u32 y13.1, .v (.slice A33 x32.length c33), U .u32 0] 75, .c 0 [U .u32 0, .v (.slice none 0 0), U .u32 0] 75] (by kernel_rfl) (by kernel_rfl) (by kernel_rfl) (by kernel_rfl) (ro_fin ?_))
                refine ro_q 1 [] [2, 3] [(2, .p 0 0), (3, I y58.2.1)] [] (by kernel_rfl) trivial ?_
                refine ro_end (by kernel_rfl) (fin_next ?_)
                refine rn_ret (fin_then_ret (fin_then_ret (fin_scope_ret ?_)))
                refine fin_nilN 87 n_api_Block ?_
                refine fin_ret [.agg #[.int .u32 0, .slice none 0 0, .int .u32 0], .int .i64 y58.2.1] (by kernel_rfl) fun w' hw' => ?_
                have hq := Option.some.inj hres
                subst hq
                exact ⟨none, 0, rfl, hw'.take (L' := [slN 87 n_api_Block none 0 []]) [0] [cellsA b60 [.int .u32 y58.1.Ssrc, .int .i64 y58.1.First, .slice A59 y58.1.Metrics.length k59] 87, slA 89 e_api_Metric A59 k59 y58.1.Metrics, R_bits_Reader b11 y58.2.2, slN 87 n_api_Block A33 c33 x32, cellsA b14 [.int .u32 y13.1, .slice A33 x32.length c33, .int .u32 0] 75, cellsA b2 [.int .u32 0, .slice none 0 0, .int .u32 0] 75] (by kernel_rfl)⟩
              · rw [if_pos (ne_f c61)] at hres
                refine rn_skip (fin_next ?_)
                refine rn_seq ?_
                refine rn_text ?_
                refine ro_q 3 [] [2, 4, 5, 47, 48] [(2, .p 0 0), (4, .p 1 0), (5, .p 2 0), (47, .v (.slice A33 x32.length c33)), (48, .v (.agg #[.int .u32 y58.1.Ssrc, .int .i64 y58.1.First, .slice A59 y58.1.Metrics.length k59]))] [] (by kernel_rfl) trivial ?_
                refine ro_op (by kernel_rfl) (op_bslice (E := n_api_Block.E) 54 87 1 #[(0, (.tmp 48))] 49 [(y58.1, (A59, k59))] (by kernel_rfl) (by kernel_rfl) (by kernel_rfl) rfl (by decide) (by kernel_rfl) (fun b63 => ro_fin ?_))
                refine bind_elim hres fun y64 hy64 hres => ?_
                refine ro_op (by kernel_rfl) (op_appendN (N := n_api_Block) (lim := 3518437208883) 54 54 87 (.tmp 47) (.tmp 49) 50 A33 (.slice (some ⟨b63, 0, none⟩) 1 1) c33 x32 y58.1 (A59, k59) ((Try.prog.info? 87).get rfl) (((Try.prog.info? 87).get rfl).zero.get rfl) [4, 2] [.a (slA 87 n_api_Block.E (some ⟨b63, 0, none⟩) 1 [(y58.1, (A59, k59))]), .c 3 [U .u32 y58.1.Ssrc, I y58.1.First, .v (.slice A59 y58.1.Metrics.length k59)] 87, .a (R_bits_Reader b11 y58.2.2), .c 2 [U .u32 y13.1, .v (.slice A33 x32.length c33), U .u32 0] 75, .c 0 [U .u32 0, .v (.slice none 0 0), U .u32 0] 75] (by kernel_rfl) (by kernel_rfl) (by kernel_rfl) (by kernel_rfl) (by kernel_rfl) (by kernel_rfl) (by kernel_rfl) (by kernel_rfl) (by kernel_rfl) (Nat.le_of_ble_eq_true (by kernel_rfl)) (by decide) hy64 (by kernel_rfl) (ap_sl (e := 87) (E := n_api_Block.E) (B := (some ⟨b63, 0, none⟩)) (c := 1) (M := [(y58.1, (A59, k59))]) (by kernel_rfl) (by kernel_rfl) (row_at (U := 87) (E := n_api_Block.E) (A := (some ⟨b63, 0, none⟩)) (c := 1) (L := [(y58.1, (A59, k59))]) 0 (by kernel_rfl))) (fun A65 k65 => ro_fin ?_))
                refine ro_q 1 [] [2, 4, 5, 50, 51] [(2, .p 0 0), (4, .p 1 0), (5, .p 2 0), (50, .v (.slice A65 y64.length k65)), (51, .p 2 1)] [] (by kernel_rfl) trivial ?_
                refine ro_op (by kernel_rfl) (op_store 54 (.tmp 51) (.tmp 50) 2 1 (.v (.slice A65 y64.length k65)) [.a (slN 87 n_api_Block A65 k65 y64), .a (slA 87 n_api_Block.E (some ⟨b63, 0, none⟩) 1 [(y58.1, (A59, k59))]), .c 3 [U .u32 y58.1.Ssrc, I y58.1.First, .v (.slice A59 y58.1.Metrics.length k59)] 87, .a (R_bits_Reader b11 y58.2.2), .c 2 [U .u32 y13.1, .v (.slice A65 y64.length k65), U .u32 0] 75, .c 0 [U .u32 0, .v (.slice none 0 0), U .u32 0] 75] (by kernel_rfl) (by kernel_rfl) (by kernel_rfl) (by kernel_rfl) (ro_fin ?_))
                refine ro_end (by kernel_rfl) (fin_next ?_)
                refine rn_goto (fin_then_goto (fin_goto ?_))
                refine fin_loop (y64, y58.2.2, A65, k65) hres [0, 3, 2, 2] [slA 87 n_api_Block.E (some ⟨b63, 0, none⟩) 1 [(y58.1, (A59, k59))], cellsA b60 [.int .u32 y58.1.Ssrc, .int .i64 y58.1.First, .slice A59 y58.1.Metrics.length k59] 87] (by kernel_rfl) (by kernel_rfl) (by kernel_rfl)
          · rw [if_neg (of_decide_eq_false c54)] at hres
            refine rn_skip (fin_next ?_)
            refine rn_seq ?_
            refine rn_text ?_
            refine ro_q 1 [] [2, 5, 52] [(2, .p 0 0), (5, .p 2 0), (52, .p 1 0)] [] (by kernel_rfl) trivial ?_
            refine bind_elim hres fun y67 hy67 hres => ?_
            refine ro_op (by kernel_rfl) (op_call (f := 34) (xs := #[(.tmp 52), (.const (.int .i64 32))]) (ats := #[96, 3]) (d := (some 53)) (args := #[.pointer (some ⟨b11, 0, none⟩), .int .i64 32]) (by kernel_rfl) (by kernel_rfl) (by kernel_rfl) (by kernel_rfl) fun w hw => (bits_Reader_Get_ok (F := [slN 87 n_api_Block A33 c33 x32, cellsA b14 [.int .u32 y13.1, .slice A33 x32.length c33, .int .u32 0] 75, cellsA b2 [.int .u32 0, .slice none 0 0, .int .u32 0] 75] ++ F) hy67 (hw.sel [0] (by kernel_rfl : _ = [R_bits_Reader b11 x34] ++ ([slN 87 n_api_Block A33 c33 x32, cellsA b14 [.int .u32 y13.1, .slice A33 x32.length c33, .int .u32 0] 75, cellsA b2 [.int .u32 0, .slice none 0 0, .int .u32 0] 75] ++ F)))).mono ?_)
            rintro _ w1 ⟨rfl, hw1⟩
            refine ⟨_, [b2, b11, b14], [.a (R_bits_Reader b11 y67.2), .a (slN 87 n_api_Block A33 c33 x32), .c 2 [U .u32 y13.1, .v (.slice A33 x32.length c33), U .u32 0] 75, .c 0 [U .u32 0, .v (.slice none 0 0), U .u32 0] 75], _, rfl, hw1.eq (by kernel_rfl), rfl, mt_same, ro_fin ?_⟩
            refine ro_q 1 [] [2, 5, 53, 54] [(2, .p 0 0), (5, .p 2 0), (53, U .u32 y67.1), (54, .p 2 2)] [] (by kernel_rfl) trivial ?_
            refine ro_op (by kernel_rfl) (op_store 41 (.tmp 54) (.tmp 53) 2 2 (U .u32 y67.1) [.a (R_bits_Reader b11 y67.2), .a (slN 87 n_api_Block A33 c33 x32), .c 2 [U .u32 y13.1, .v (.slice A33 x32.length c33), U .u32 y67.1] 75, .c 0 [U .u32 0, .v (.slice none 0 0), U .u32 0] 75] (by kernel_rfl) (by kernel_rfl) (by kernel_rfl) (by kernel_rfl) (ro_fin ?_))
            refine ro_end (by kernel_rfl) (fin_next ?_)
            refine rn_seq ?_
            refine rn_text ?_
            refine ro_q 1 [] [2, 55] [(2, .p 0 0), (55, .v (.agg #[.int .u32 y13.1, .slice A33 x32.length c33, .int .u32 y67.1]))] [] (by kernel_rfl) trivial ?_
            refine ro_op (by kernel_rfl) (op_store 75 (.tmp 2) (.tmp 55) 0 0 (.v (.agg #[.int .u32 y13.1, .slice A33 x32.length c33, .int .u32 y67.1])) [.a (R_bits_Reader b11 y67.2), .a (slN 87 n_api_Block A33 c33 x32), .c 2 [U .u32 y13.1, .v (.slice A33 x32.length c33), U .u32 y67.1] 75, .c 0 [U .u32 y13.1, .v (.slice A33 x32.length c33), U .u32 y67.1] 75] (by kernel_rfl) (by kernel_rfl) (by kernel_rfl) (by kernel_rfl) (ro_fin ?_))
            refine ro_q 1 [] [2, 3] [(2, .p 0 0), (3, I 0)] [] (by kernel_rfl) trivial ?_
            refine ro_end (by kernel_rfl) (fin_next ?_)
            refine rn_ret (fin_scope_ret ?_)
            refine fin_ret [.agg #[.int .u32 y13.1, .slice A33 x32.length c33, .int .u32 y67.1], .int .i64 0] (by kernel_rfl) fun w' hw' => ?_
            have hq := Option.some.inj hres
            subst hq
            exact ⟨A33, c33, rfl, hw'.take (L' := [slN 87 n_api_Block A33 c33 x32]) [1] [R_bits_Reader b11 y67.2, cellsA b14 [.int .u32 y13.1, .slice A33 x32.length c33, .int .u32 y67.1] 75, cellsA b2 [.int .u32 y13.1, .slice A33 x32.length c33, .int .u32 y67.1] 75] (by kernel_rfl)⟩
/- 38 flywheel/twcc.signed -/
def twcc_signed (a1 : Int) (a2 : Int) : Option Int :=
  (if (w64 (32 - a2)) < 0 then none else
  (if (w64 (32 - a2)) < 0 then none else
  some (w64 (shR .i32 (IntKind.wrap .i32 (shL .u32 a1 (w64 (32 - a2)))) (w64 (32 - a2))))))
theorem twcc_signed_ok {a1 : Int} {a2 : Int} {r : Int} (hres : twcc_signed a1 a2 = some r) {w0 w : World} {F : List Asn} (hw : SH w0 w (F)) :
    Calls Try.prog 38 #[.int .u32 a1, .int .i64 a2] w fun e w' => e = .returned (.int .i64 r) ∧ SH w0 w' (F) := by
  refine fw_enter (n := 14) (bs := []) (env := [(0, U .u32 a1), (1, I a2)]) (H := []) (F := F) Try.func38 rfl (by kernel_rfl) (by kernel_rfl) (by kernel_rfl) (hw.eq (by kernel_rfl)) ?_
  unfold twcc_signed at hres
  refine rn_seq ?_
  refine rn_q [] [0, 1] [(0, U .u32 a1), (1, I a2)] [] (by kernel_rfl) trivial (fin_next ?_)
  refine rn_seq ?_
  have hy3 : ¬ (w64 (32 - a2)) < 0 := by intro hz; rw [if_pos hz] at hres; cases hres
  rw [if_neg hy3] at hres
  have hy4 : ¬ (w64 (32 - a2)) < 0 := by intro hz; rw [if_pos hz] at hres; cases hres
  rw [if_neg hy4] at hres
  refine rn_q [(3, U .u32 (shL .u32 a1 (w64 (32 - a2)))), (7, U .i32 (shR .i32 (IntKind.wrap .i32 (shL .u32 a1 (w64 (32 - a2)))) (w64 (32 - a2))))] [4] [(4, I (w64 (shR .i32 (IntKind.wrap .i32 (shL .u32 a1 (w64 (32 - a2)))) (w64 (32 - a2)))))] [(smShl .u32 a1 .i64 (w64 (32 - a2)), .int .u32 (shL .u32 a1 (w64 (32 - a2)))), (smShr .i32 (IntKind.wrap .i32 (shL .u32 a1 (w64 (32 - a2)))) .i64 (w64 (32 - a2)), .int .i32 (shR .i32 (IntKind.wrap .i32 (shL .u32 a1 (w64 (32 - a2)))) (w64 (32 - a2))))] (by kernel_rfl) ⟨ob_shl hy3, ⟨ob_shr hy4, trivial⟩⟩ (fin_next ?_)
  refine rn_ret ?_
  refine fin_ret [.int .i64 (w64 (shR .i32 (IntKind.wrap .i32 (shL .u32 a1 (w64 (32 - a2)))) (w64 (32 - a2))))] (by kernel_rfl) fun w' hw' => ?_
  have hq := Option.some.inj hres
  subst hq
  exact ⟨rfl, hw'.drop⟩
/- 39 flywheel/twcc.chunk -/
def twcc_chunk.l2520 (a2 : Int) (y1904 : Int × S_bits_Reader) (y1906 : Int × S_bits_Reader) : Nat → (List Int) → Int → Option ((List Int) × Int × S_bits_Reader)
  | 0, _, _ => none
  | k + 1, x2513, x2515 =>
    (if x2515 < (mn (w64 (y1906.1)) a2) then (cat 17592186044416 x2513 [w64 (y1904.1)]).bind fun y2523 =>
  twcc_chunk.l2520 a2 y1904 y1906 k y2523 (w64 (x2515 + 1)) else some (x2513, 0, y1906.2))
def twcc_chunk.j2526 (a2 : Int) (y1904 : Int × S_bits_Reader) (y1906 : Int × S_bits_Reader) : Option ((List Int) × Int × S_bits_Reader) :=
  twcc_chunk.l2520 a2 y1904 y1906 FUEL [] 0
def twcc_chunk.j2211 (a2 : Int) (y1904 : Int × S_bits_Reader) (y1906 : Int × S_bits_Reader) (j2208 : Bool) : Option ((List Int) × Int × S_bits_Reader) :=
  (if j2208 = true then some ([], 100, y1906.2) else twcc_chunk.j2526 a2 y1904 y1906)
def twcc_chunk.j3784 (r1 : (List Int) → Bool → Int → S_bits_Reader → Option ((List Int) × Int × S_bits_Reader)) (a2 : Int) (x3153 : List Int) (x3156 : Int) (y3475 : Int × S_bits_Reader) (j3779 : Bool) : Option ((List Int) × Int × S_bits_Reader) :=
  (if x3156 < a2 then (cat 17592186044416 x3153 [w64 (y3475.1)]).bind fun y3782 =>
  r1 y3782 j3779 (w64 (x3156 + 1)) y3475.2 else r1 x3153 j3779 (w64 (x3156 + 1)) y3475.2)
def twcc_chunk.l3472 (a2 : Int) (j2830 : Int) (j2831 : Int) : Nat → (List Int) → Bool → Int → S_bits_Reader → Option ((List Int) × Int × S_bits_Reader)
  | 0, _, _, _, _ => none
  | k + 1, x3153, x3155, x3156, x3157 =>
    (if x3156 < j2830 then (bits_Reader_Get x3157 j2831).bind fun y3475 =>
  (if x3155 = true then (if (w64 (y3475.1)) ≤ 2 then (if x3156 < a2 then twcc_chunk.j3784 (twcc_chunk.l3472 a2 j2830 j2831 k) a2 x3153 x3156 y3475 true else twcc_chunk.j3784 (twcc_chunk.l3472 a2 j2830 j2831 k) a2 x3153 x3156 y3475 ((w64 (y3475.1)) == 0)) else twcc_chunk.j3784 (twcc_chunk.l3472 a2 j2830 j2831 k) a2 x3153 x3156 y3475 false) else twcc_chunk.j3784 (twcc_chunk.l3472 a2 j2830 j2831 k) a2 x3153 x3156 y3475 false) else (if x3155 = true then some (x3153, 0, x3157) else some ([], 100, x3157)))
def twcc_chunk.j3788 (a2 : Int) (j2830 : Int) (j2831 : Int) (j2832 : S_bits_Reader) : Option ((List Int) × Int × S_bits_Reader) :=
  twcc_chunk.l3472 a2 j2830 j2831 FUEL [] true 0 j2832
def twcc_chunk (a1 : S_bits_Reader) (a2 : Int) : Option ((List Int) × Int × S_bits_Reader) :=
  (bits_Reader_Left a1).bind fun y1897 =>
  (if y1897 < 16 then some ([], 60, a1) else (bits_Reader_Get a1 1).bind fun y1901 =>
  (if y1901.1 = 0 then (bits_Reader_Get y1901.2 2).bind fun y1904 =>
  (bits_Reader_Get y1904.2 13).bind fun y1906 =>
  (if 2 < (w64 (y1904.1)) then twcc_chunk.j2211 a2 y1904 y1906 true else twcc_chunk.j2211 a2 y1904 y1906 ((w64 (y1906.1)) == 0)) else (bits_Reader_Get y1901.2 1).bind fun y2528 =>
  (if y2528.1 = 1 then twcc_chunk.j3788 a2 7 2 y2528.2 else twcc_chunk.j3788 a2 14 1 y2528.2)))
theorem twcc_chunk_ok {a1 : S_bits_Reader} {a2 : Int} {b0 : Nat} {r : (List Int) × Int × S_bits_Reader} (hres : twcc_chunk a1 a2 = some r) {w0 w : World} {F : List Asn} (hw : SH w0 w ([R_bits_Reader b0 a1] ++ F)) :
    Calls Try.prog 39 #[.pointer (some ⟨b0, 0, none⟩), .int .i64 a2] w fun e w' => ∃ A3789 k3789, e = .returned (.tuple #[.slice A3789 r.1.length k3789, .int .i64 r.2.1]) ∧ SH w0 w' ([slA 3 (eI .i64) A3789 k3789 r.1, R_bits_Reader b0 r.2.2] ++ F) := by
  refine fw_enter (n := 79) (bs := [b0]) (env := [(0, .p 0 0), (1, I a2)]) (H := [.a (R_bits_Reader b0 a1)]) (F := F) Try.func39 rfl (by kernel_rfl) (by kernel_rfl) (by kernel_rfl) (hw.eq (by kernel_rfl)) ?_
  unfold twcc_chunk at hres
  refine rn_seq ?_
  refine rn_q [] [0, 1] [(0, .p 0 0), (1, I a2)] [] (by kernel_rfl) trivial (fin_next ?_)
  refine rn_seq ?_
  refine rn_seq ?_
  refine rn_text ?_
  refine ro_q 1 [] [0, 1, 14] [(0, .p 0 0), (1, I a2), (14, .p 0 0)] [] (by kernel_rfl) trivial ?_
  refine bind_elim hres fun y1897 hy1897 hres => ?_
  refine ro_op (by kernel_rfl) (op_call (f := 36) (xs := #[(.tmp 14)]) (ats := #[96]) (d := (some 15)) (args := #[.pointer (some ⟨b0, 0, none⟩)]) (by kernel_rfl) (by kernel_rfl) (by kernel_rfl) (by kernel_rfl) fun w hw => (bits_Reader_Left_ok (F := [] ++ F) hy1897 (hw.sel [0] (by kernel_rfl : _ = [R_bits_Reader b0 a1] ++ ([] ++ F)))).mono ?_)
  rintro _ w1 ⟨rfl, hw1⟩
  refine ⟨_, [b0], [.a (R_bits_Reader b0 a1)], _, rfl, hw1.eq (by kernel_rfl), rfl, mt_same, ro_fin ?_⟩
  refine ro_q 1 [] [0, 1, 16] [(0, .p 0 0), (1, I a2), (16, B (decide (y1897 < 16)))] [] (by kernel_rfl) trivial ?_
  refine ro_end (by kernel_rfl) (fin_next ?_)
  refine rn_cond (decide (y1897 < 16)) (by kernel_rfl) (fun c1898 => ?_) (fun c1898 => ?_)
  · rw [if_pos (of_decide_eq_true c1898)] at hres
    refine rn_seq ?_
    refine rn_q [] [4, 5] [(4, .v (.slice none 0 0)), (5, I 60)] [] (by kernel_rfl) trivial (fin_next ?_)
    refine rn_ret (fin_then_ret ?_)
    refine fin_nil 3 (eI .i64) ?_
    refine fin_ret [.slice none 0 0, .int .i64 60] (by kernel_rfl) fun w' hw' => ?_
    have hq := Option.some.inj hres
    subst hq
    exact ⟨none, 0, rfl, hw'.take (L' := [slA 3 (eI .i64) none 0 [], R_bits_Reader b0 a1]) [0, 0] [] (by kernel_rfl)⟩
  · rw [if_neg (of_decide_eq_false c1898)] at hres
    refine rn_skip (fin_next ?_)
    refine rn_seq ?_
    refine rn_q [] [0, 1, 6] [(0, .p 0 0), (1, I a2), (6, .v (.slice none 0 0))] [] (by kernel_rfl) trivial (fin_next ?_)
    refine rn_seq ?_
    refine rn_seq ?_
    refine rn_text ?_
    refine ro_q 1 [] [0, 1, 6, 17] [(0, .p 0 0), (1, I a2), (6, .v (.slice none 0 0)), (17, .p 0 0)] [] (by kernel_rfl) trivial ?_
    refine bind_elim hres fun y1901 hy1901 hres => ?_
    refine ro_op (by kernel_rfl) (op_call (f := 34) (xs := #[(.tmp 17), (.const (.int .i64 1))]) (ats := #[96, 3]) (d := (some 18)) (args := #[.pointer (some ⟨b0, 0, none⟩), .int .i64 1]) (by kernel_rfl) (by kernel_rfl) (by kernel_rfl) (by kernel_rfl) fun w hw => (bits_Reader_Get_ok (F := [] ++ F) hy1901 (hw.sel [0] (by kernel_rfl : _ = [R_bits_Reader b0 a1] ++ ([] ++ F)))).mono ?_)
    rintro _ w1 ⟨rfl, hw1⟩
    refine ⟨_, [b0], [.a (R_bits_Reader b0 y1901.2)], _, rfl, hw1.eq (by kernel_rfl), rfl, mt_same, ro_fin ?_⟩
    refine ro_q 1 [] [0, 1, 6, 19] [(0, .p 0 0), (1, I a2), (6, .v (.slice none 0 0)), (19, B (y1901.1 == 0))] [] (by kernel_rfl) trivial ?_
    refine ro_end (by kernel_rfl) (fin_next ?_)
    refine rn_cond (y1901.1 == 0) (by kernel_rfl) (fun c1902 => ?_) (fun c1902 => ?_)
    · rw [if_pos (eq_t c1902)] at hres
      refine rn_seq ?_
      refine rn_text ?_
      refine ro_q 1 [] [0, 1, 6, 20] [(0, .p 0 0), (1, I a2), (6, .v (.slice none 0 0)), (20, .p 0 0)] [] (by kernel_rfl) trivial ?_
      refine bind_elim hres fun y1904 hy1904 hres => ?_
      refine ro_op (by kernel_rfl) (op_call (f := 34) (xs := #[(.tmp 20), (.const (.int .i64 2))]) (ats := #[96, 3]) (d := (some 21)) (args := #[.pointer (some ⟨b0, 0, none⟩), .int .i64 2]) (by kernel_rfl) (by kernel_rfl) (by kernel_rfl) (by kernel_rfl) fun w hw => (bits_Reader_Get_ok (F := [] ++ F) hy1904 (hw.sel [0] (by kernel_rfl : _ = [R_bits_Reader b0 y1901.2] ++ ([] ++ F)))).mono ?_)
      rintro _ w1 ⟨rfl, hw1⟩
      refine ⟨_, [b0], [.a (R_bits_Reader b0 y1904.2)], _, rfl, hw1.eq (by kernel_rfl), rfl, mt_same, ro_fin ?_⟩
      refine ro_q 2 [] [1, 6, 22, 23] [(1, I a2), (6, .v (.slice none 0 0)), (22, I (w64 (y1904.1))), (23, .p 0 0)] [] (by kernel_rfl) trivial ?_
      refine bind_elim hres fun y1906 hy1906 hres => ?_
      refine ro_op (by kernel_rfl) (op_call (f := 34) (xs := #[(.tmp 23), (.const (.int .i64 13))]) (ats := #[96, 3]) (d := (some 24)) (args := #[.pointer (some ⟨b0, 0, none⟩), .int .i64 13]) (by kernel_rfl) (by kernel_rfl) (by kernel_rfl) (by kernel_rfl) fun w hw => (bits_Reader_Get_ok (F := [] ++ F) hy1906 (hw.sel [0] (by kernel_rfl : _ = [R_bits_Reader b0 y1904.2] ++ ([] ++ F)))).mono ?_)
      rintro _ w1 ⟨rfl, hw1⟩
      refine ⟨_, [b0], [.a (R_bits_Reader b0 y1906.2)], _, rfl, hw1.eq (by kernel_rfl), rfl, mt_same, ro_fin ?_⟩
      refine ro_q 3 [] [1, 6, 7, 8] [(1, I a2), (6, .v (.slice none 0 0)), (7, I (w64 (y1904.1))), (8, I (w64 (y1906.1)))] [] (by kernel_rfl) trivial ?_
      refine ro_end (by kernel_rfl) (fin_next ?_)
      refine rn_join (V := Unit) (J := fun v => twcc_chunk.j2526 a2 y1904 y1906 = some r) (sv := fun v => ⟨[b0], [(1, I a2), (6, .v (.slice none 0 0)), (7, I (w64 (y1904.1))), (8, I (w64 (y1906.1)))], [.a (R_bits_Reader b0 y1906.2)]⟩) ?_ ?_
      · refine rn_join (V := Bool) (J := fun v => twcc_chunk.j2211 a2 y1904 y1906 v = some r) (sv := fun v => ⟨[b0], [(1, I a2), (6, .v (.slice none 0 0)), (7, I (w64 (y1904.1))), (8, I (w64 (y1906.1))), (31, B v)], [.a (R_bits_Reader b0 y1906.2)]⟩) ?_ ?_
        · refine rn_text ?_
          refine ro_q 3 [] [1, 6, 7, 8, 28] [(1, I a2), (6, .v (.slice none 0 0)), (7, I (w64 (y1904.1))), (8, I (w64 (y1906.1))), (28, B (decide (2 < (w64 (y1904.1)))))] [] (by kernel_rfl) trivial ?_
          refine ro_split 28 (decide (2 < (w64 (y1904.1)))) (by kernel_rfl) (fun c1907 => ?_) (fun c1907 => ?_)
          · rw [if_pos (of_decide_eq_true c1907)] at hres
            refine ro_q 3 [] [1, 6, 7, 8, 31] [(1, I a2), (6, .v (.slice none 0 0)), (7, I (w64 (y1904.1))), (8, I (w64 (y1906.1))), (31, B true)] [] (by kernel_rfl) trivial ?_
            refine ro_end (by kernel_rfl) (fin_then ?_)
            refine fin_join true hres [0] [] (by kernel_rfl) (by kernel_rfl) (by kernel_rfl)
          · rw [if_neg (of_decide_eq_false c1907)] at hres
            refine ro_q 3 [] [1, 6, 7, 8, 31] [(1, I a2), (6, .v (.slice none 0 0)), (7, I (w64 (y1904.1))), (8, I (w64 (y1906.1))), (31, B ((w64 (y1906.1)) == 0))] [] (by kernel_rfl) trivial ?_
            refine ro_end (by kernel_rfl) (fin_then ?_)
            refine fin_join ((w64 (y1906.1)) == 0) hres [0] [] (by kernel_rfl) (by kernel_rfl) (by kernel_rfl)
        · rintro j2208 hres
          unfold twcc_chunk.j2211 at hres
          refine rn_cond (j2208) (by kernel_rfl) (fun c2209 => ?_) (fun c2209 => ?_)
          · rw [if_pos (c2209)] at hres
            refine rn_seq ?_
            refine rn_q [] [4, 5] [(4, .v (.slice none 0 0)), (5, I 100)] [] (by kernel_rfl) trivial (fin_next ?_)
            refine rn_ret (fin_then_ret (fin_then_ret ?_))
            refine fin_nil 3 (eI .i64) ?_
            refine fin_ret [.slice none 0 0, .int .i64 100] (by kernel_rfl) fun w' hw' => ?_
            have hq := Option.some.inj hres
            subst hq
            exact ⟨none, 0, rfl, hw'.take (L' := [slA 3 (eI .i64) none 0 [], R_bits_Reader b0 y1906.2]) [0, 0] [] (by kernel_rfl)⟩
          · rw [if_neg (nt_of_f c2209)] at hres
            refine rn_skip (fin_then ?_)
            refine fin_join () hres [0] [] (by kernel_rfl) (by kernel_rfl) (by kernel_rfl)
      · rintro ⟨⟩ hres
        unfold twcc_chunk.j2526 at hres
        refine rn_seq ?_
        refine rn_seq ?_
        refine rn_q [] [6, 7, 34, 35] [(6, .v (.slice none 0 0)), (7, I (w64 (y1904.1))), (34, I (mn (w64 (y1906.1)) a2)), (35, I 0)] [] (by kernel_rfl) trivial (fin_next ?_)
        refine rn_block ?_
        refine rn_nil 3 (eI .i64) ?_
        refine rn_loop (V := List Int × Int × Option Addr × Nat) (J := fun k v => twcc_chunk.l2520 a2 y1904 y1906 k v.1 v.2.1 = some r) (sv := fun v => ⟨[b0], [(6, .v (.slice v.2.2.1 v.1.length v.2.2.2)), (7, I (w64 (y1904.1))), (34, I (mn (w64 (y1906.1)) a2)), (35, I v.2.1)], [.a (slA 3 (eI .i64) v.2.2.1 v.2.2.2 v.1), .a (R_bits_Reader b0 y1906.2)]⟩) FUEL ([], 0, none, 0) hres (fun a w hs => hs.conv [0, 0] (by kernel_rfl) (by kernel_rfl) ⟨[], by kernel_rfl⟩) ?_
        rintro k2520 ⟨x2513, x2515, A2514, c2514⟩ hres
        rcases k2520 with _ | k2520
        · rw [twcc_chunk.l2520] at hres; cases hres
        · rw [twcc_chunk.l2520] at hres
          refine rn_seq ?_
          refine rn_q [] [6, 7, 34, 35, 36] [(6, .v (.slice A2514 x2513.length c2514)), (7, I (w64 (y1904.1))), (34, I (mn (w64 (y1906.1)) a2)), (35, I x2515), (36, B (decide (x2515 < (mn (w64 (y1906.1)) a2))))] [] (by kernel_rfl) trivial (fin_next ?_)
          refine rn_seq ?_
          refine rn_cond (decide (x2515 < (mn (w64 (y1906.1)) a2))) (by kernel_rfl) (fun c2521 => ?_) (fun c2521 => ?_)
          · rw [if_pos (of_decide_eq_true c2521)] at hres
            refine rn_skip (fin_next ?_)
            refine rn_seq ?_
            refine rn_block ?_
            refine rn_text ?_
            refine ro_q 2 [] [7, 34, 35, 37, 38] [(7, I (w64 (y1904.1))), (34, I (mn (w64 (y1906.1)) a2)), (35, I x2515), (37, .v (.slice A2514 x2513.length c2514)), (38, I (w64 (y1904.1)))] [] (by kernel_rfl) trivial ?_
            refine ro_op (by kernel_rfl) (op_bslice (E := (eI .i64)) 31 3 1 #[(0, (.tmp 38))] 39 [w64 (y1904.1)] (by kernel_rfl) (by kernel_rfl) (by kernel_rfl) rfl (by decide) (by kernel_rfl) (fun b2522 => ro_fin ?_))
            refine bind_elim hres fun y2523 hy2523 hres => ?_
            refine ro_op (by kernel_rfl) (op_append (E := (eI .i64)) (lim := 17592186044416) 31 31 3 (.tmp 37) (.tmp 39) 40 A2514 (.slice (some ⟨b2522, 0, none⟩) 1 1) c2514 x2513 [w64 (y1904.1)] ((Try.prog.info? 3).get rfl) (((Try.prog.info? 3).get rfl).zero.get rfl) 1 [.a (slA 3 (eI .i64) (some ⟨b2522, 0, none⟩) 1 [w64 (y1904.1)]), .a (R_bits_Reader b0 y1906.2)] (by kernel_rfl) (by kernel_rfl) (by kernel_rfl) (by kernel_rfl) (by kernel_rfl) (by kernel_rfl) (by kernel_rfl) (by kernel_rfl) (by kernel_rfl) (Nat.le_of_ble_eq_true (by kernel_rfl)) (by decide) hy2523 (by kernel_rfl) (ap_sl (e := 3) (E := (eI .i64)) (B := (some ⟨b2522, 0, none⟩)) (c := 1) (M := [w64 (y1904.1)]) (by kernel_rfl) (by kernel_rfl) (row_at (U := 3) (E := (eI .i64)) (A := (some ⟨b2522, 0, none⟩)) (c := 1) (L := [w64 (y1904.1)]) 0 (by kernel_rfl))) (fun A2524 k2524 => ro_fin ?_))
            refine ro_q 1 [] [6, 7, 34, 35] [(6, .v (.slice A2524 y2523.length k2524)), (7, I (w64 (y1904.1))), (34, I (mn (w64 (y1906.1)) a2)), (35, I x2515)] [] (by kernel_rfl) trivial ?_
            refine ro_end (by kernel_rfl) (fin_block (fin_next ?_))
            refine rn_q [] [6, 7, 34, 35] [(6, .v (.slice A2524 y2523.length k2524)), (7, I (w64 (y1904.1))), (34, I (mn (w64 (y1906.1)) a2)), (35, I (w64 (x2515 + 1)))] [] (by kernel_rfl) trivial (fin_then ?_)
            refine fin_loop (y2523, w64 (x2515 + 1), A2524, k2524) hres [0, 1] [slA 3 (eI .i64) (some ⟨b2522, 0, none⟩) 1 [w64 (y1904.1)]] (by kernel_rfl) (by kernel_rfl) (by kernel_rfl)
          · rw [if_neg (of_decide_eq_false c2521)] at hres
            refine rn_exit (fin_then_exit (fin_then_exit (fin_block_exit (fin_next ?_))))
            refine rn_seq ?_
            refine rn_q [] [4, 5] [(4, .v (.slice A2514 x2513.length c2514)), (5, I 0)] [] (by kernel_rfl) trivial (fin_next ?_)
            refine rn_ret (fin_then_ret ?_)
            refine fin_ret [.slice A2514 x2513.length c2514, .int .i64 0] (by kernel_rfl) fun w' hw' => ?_
            have hq := Option.some.inj hres
            subst hq
            exact ⟨A2514, c2514, rfl, hw'.take (L' := [slA 3 (eI .i64) A2514 c2514 x2513, R_bits_Reader b0 y1906.2]) [0, 0] [] (by kernel_rfl)⟩
    · rw [if_neg (eq_f c1902)] at hres
      refine rn_skip (fin_next ?_)
      refine rn_seq ?_
      refine rn_q [] [0, 1, 6, 9, 10] [(0, .p 0 0), (1, I a2), (6, .v (.slice none 0 0)), (9, I 14), (10, I 1)] [] (by kernel_rfl) trivial (fin_next ?_)
      refine rn_join (V := Int × Int × S_bits_Reader) (J := fun v => twcc_chunk.j3788 a2 v.1 v.2.1 v.2.2 = some r) (sv := fun v => ⟨[b0], [(0, .p 0 0), (1, I a2), (6, .v (.slice none 0 0)), (9, I v.1), (10, I v.2.1)], [.a (R_bits_Reader b0 v.2.2)]⟩) ?_ ?_
      · refine rn_seq ?_
        refine rn_text ?_
        refine ro_q 1 [] [0, 1, 6, 9, 10, 43] [(0, .p 0 0), (1, I a2), (6, .v (.slice none 0 0)), (9, I 14), (10, I 1), (43, .p 0 0)] [] (by kernel_rfl) trivial ?_
        refine bind_elim hres fun y2528 hy2528 hres => ?_
        refine ro_op (by kernel_rfl) (op_call (f := 34) (xs := #[(.tmp 43), (.const (.int .i64 1))]) (ats := #[96, 3]) (d := (some 44)) (args := #[.pointer (some ⟨b0, 0, none⟩), .int .i64 1]) (by kernel_rfl) (by kernel_rfl) (by kernel_rfl) (by kernel_rfl) fun w hw => (bits_Reader_Get_ok (F := [] ++ F) hy2528 (hw.sel [0] (by kernel_rfl : _ = [R_bits_Reader b0 y1901.2] ++ ([] ++ F)))).mono ?_)
        rintro _ w1 ⟨rfl, hw1⟩
        refine ⟨_, [b0], [.a (R_bits_Reader b0 y2528.2)], _, rfl, hw1.eq (by kernel_rfl), rfl, mt_same, ro_fin ?_⟩
        refine ro_q 1 [] [0, 1, 6, 9, 10, 45] [(0, .p 0 0), (1, I a2), (6, .v (.slice none 0 0)), (9, I 14), (10, I 1), (45, B (y2528.1 == 1))] [] (by kernel_rfl) trivial ?_
        refine ro_end (by kernel_rfl) (fin_next ?_)
        refine rn_cond (y2528.1 == 1) (by kernel_rfl) (fun c2529 => ?_) (fun c2529 => ?_)
        · rw [if_pos (eq_t c2529)] at hres
          refine rn_q [] [0, 1, 6, 9, 10] [(0, .p 0 0), (1, I a2), (6, .v (.slice none 0 0)), (9, I 7), (10, I 2)] [] (by kernel_rfl) trivial (fin_then ?_)
          refine fin_join (7, 2, y2528.2) hres [0] [] (by kernel_rfl) (by kernel_rfl) (by kernel_rfl)
        · rw [if_neg (eq_f c2529)] at hres
          refine rn_skip (fin_then ?_)
          refine fin_join (14, 1, y2528.2) hres [0] [] (by kernel_rfl) (by kernel_rfl) (by kernel_rfl)
      · rintro ⟨j2830, j2831, j2832⟩ hres
        unfold twcc_chunk.j3788 at hres
        refine rn_seq ?_
        refine rn_q [] [0, 1, 6, 9, 10, 11] [(0, .p 0 0), (1, I a2), (6, .v (.slice none 0 0)), (9, I j2830), (10, I j2831), (11, B true)] [] (by kernel_rfl) trivial (fin_next ?_)
        refine rn_seq ?_
        refine rn_seq ?_
        refine rn_q [] [0, 1, 6, 10, 11, 46, 47] [(0, .p 0 0), (1, I a2), (6, .v (.slice none 0 0)), (10, I j2831), (11, B true), (46, I j2830), (47, I 0)] [] (by kernel_rfl) trivial (fin_next ?_)
        refine rn_block ?_
        refine rn_nil 3 (eI .i64) ?_
        refine rn_loop (V := List Int × Bool × Int × S_bits_Reader × Option Addr × Nat) (J := fun k v => twcc_chunk.l3472 a2 j2830 j2831 k v.1 v.2.1 v.2.2.1 v.2.2.2.1 = some r) (sv := fun v => ⟨[b0], [(0, .p 0 0), (1, I a2), (6, .v (.slice v.2.2.2.2.1 v.1.length v.2.2.2.2.2)), (10, I j2831), (11, B v.2.1), (46, I j2830), (47, I v.2.2.1)], [.a (slA 3 (eI .i64) v.2.2.2.2.1 v.2.2.2.2.2 v.1), .a (R_bits_Reader b0 v.2.2.2.1)]⟩) FUEL ([], true, 0, j2832, none, 0) hres (fun a w hs => hs.conv [0, 0] (by kernel_rfl) (by kernel_rfl) ⟨[], by kernel_rfl⟩) ?_
        rintro k3472 ⟨x3153, x3155, x3156, x3157, A3154, c3154⟩ hres
        rcases k3472 with _ | k3472
        · rw [twcc_chunk.l3472] at hres; cases hres
        · rw [twcc_chunk.l3472] at hres
          refine rn_seq ?_
          refine rn_q [] [0, 1, 6, 10, 11, 46, 47, 48] [(0, .p 0 0), (1, I a2), (6, .v (.slice A3154 x3153.length c3154)), (10, I j2831), (11, B x3155), (46, I j2830), (47, I x3156), (48, B (decide (x3156 < j2830)))] [] (by kernel_rfl) trivial (fin_next ?_)
          refine rn_seq ?_
          refine rn_cond (decide (x3156 < j2830)) (by kernel_rfl) (fun c3473 => ?_) (fun c3473 => ?_)
          · rw [if_pos (of_decide_eq_true c3473)] at hres
            refine rn_skip (fin_next ?_)
            refine rn_seq ?_
            refine rn_block ?_
            refine rn_seq ?_
            refine rn_q [] [0, 1, 6, 10, 11, 12, 46, 47] [(0, .p 0 0), (1, I a2), (6, .v (.slice A3154 x3153.length c3154)), (10, I j2831), (11, B x3155), (12, I x3156), (46, I j2830), (47, I x3156)] [] (by kernel_rfl) trivial (fin_next ?_)
            refine rn_seq ?_
            refine rn_text ?_
            refine ro_q 2 [] [0, 1, 6, 10, 11, 12, 46, 47, 50, 51] [(0, .p 0 0), (1, I a2), (6, .v (.slice A3154 x3153.length c3154)), (10, I j2831), (11, B x3155), (12, I x3156), (46, I j2830), (47, I x3156), (50, .p 0 0), (51, I j2831)] [] (by kernel_rfl) trivial ?_
            refine bind_elim hres fun y3475 hy3475 hres => ?_
            refine ro_op (by kernel_rfl) (op_call (f := 34) (xs := #[(.tmp 50), (.tmp 51)]) (ats := #[96, 3]) (d := (some 52)) (args := #[.pointer (some ⟨b0, 0, none⟩), .int .i64 j2831]) (by kernel_rfl) (by kernel_rfl) (by kernel_rfl) (by kernel_rfl) fun w hw => (bits_Reader_Get_ok (F := [slA 3 (eI .i64) A3154 c3154 x3153] ++ F) hy3475 (hw.sel [1] (by kernel_rfl : _ = [R_bits_Reader b0 x3157] ++ ([slA 3 (eI .i64) A3154 c3154 x3153] ++ F)))).mono ?_)
            rintro _ w1 ⟨rfl, hw1⟩
            refine ⟨_, [b0], [.a (R_bits_Reader b0 y3475.2), .a (slA 3 (eI .i64) A3154 c3154 x3153)], _, rfl, hw1.eq (by kernel_rfl), rfl, mt_same, ro_fin ?_⟩
            refine ro_q 2 [] [0, 1, 6, 10, 11, 12, 13, 46, 47] [(0, .p 0 0), (1, I a2), (6, .v (.slice A3154 x3153.length c3154)), (10, I j2831), (11, B x3155), (12, I x3156), (13, I (w64 (y3475.1))), (46, I j2830), (47, I x3156)] [] (by kernel_rfl) trivial ?_
            refine ro_end (by kernel_rfl) (fin_next ?_)
            refine rn_join (V := Bool) (J := fun v => twcc_chunk.j3784 (twcc_chunk.l3472 a2 j2830 j2831 k3472) a2 x3153 x3156 y3475 v = some r) (sv := fun v => ⟨[b0], [(0, .p 0 0), (1, I a2), (6, .v (.slice A3154 x3153.length c3154)), (10, I j2831), (11, B v), (12, I x3156), (13, I (w64 (y3475.1))), (46, I j2830), (47, I x3156)], [.a (R_bits_Reader b0 y3475.2), .a (slA 3 (eI .i64) A3154 c3154 x3153)]⟩) ?_ ?_
            · refine rn_text ?_
              refine ro_q 2 [] [0, 1, 6, 10, 12, 13, 46, 47, 55] [(0, .p 0 0), (1, I a2), (6, .v (.slice A3154 x3153.length c3154)), (10, I j2831), (12, I x3156), (13, I (w64 (y3475.1))), (46, I j2830), (47, I x3156), (55, B x3155)] [] (by kernel_rfl) trivial ?_
              refine ro_split 55 (x3155) (by kernel_rfl) (fun c3476 => ?_) (fun c3476 => ?_)
              · rw [if_pos (c3476)] at hres
                refine ro_q 4 [] [0, 1, 6, 10, 12, 13, 46, 47, 59] [(0, .p 0 0), (1, I a2), (6, .v (.slice A3154 x3153.length c3154)), (10, I j2831), (12, I x3156), (13, I (w64 (y3475.1))), (46, I j2830), (47, I x3156), (59, B (decide ((w64 (y3475.1)) ≤ 2)))] [] (by kernel_rfl) trivial ?_
                refine ro_split 59 (decide ((w64 (y3475.1)) ≤ 2)) (by kernel_rfl) (fun c3477 => ?_) (fun c3477 => ?_)
                · rw [if_pos (of_decide_eq_true c3477)] at hres
                  refine ro_q 4 [] [0, 1, 6, 10, 12, 13, 46, 47, 59, 63] [(0, .p 0 0), (1, I a2), (6, .v (.slice A3154 x3153.length c3154)), (10, I j2831), (12, I x3156), (13, I (w64 (y3475.1))), (46, I j2830), (47, I x3156), (59, B true), (63, B (decide (x3156 < a2)))] [] (by kernel_rfl) trivial ?_
                  refine ro_split 63 (decide (x3156 < a2)) (by kernel_rfl) (fun c3478 => ?_) (fun c3478 => ?_)
                  · rw [if_pos (of_decide_eq_true c3478)] at hres
                    refine ro_q 5 [] [0, 1, 6, 10, 11, 12, 13, 46, 47] [(0, .p 0 0), (1, I a2), (6, .v (.slice A3154 x3153.length c3154)), (10, I j2831), (11, B true), (12, I x3156), (13, I (w64 (y3475.1))), (46, I j2830), (47, I x3156)] [] (by kernel_rfl) trivial ?_
                    refine ro_end (by kernel_rfl) (fin_then ?_)
                    refine fin_join true hres [0, 0] [] (by kernel_rfl) (by kernel_rfl) (by kernel_rfl)
                  · rw [if_neg (of_decide_eq_false c3478)] at hres
                    refine ro_q 5 [] [0, 1, 6, 10, 11, 12, 13, 46, 47] [(0, .p 0 0), (1, I a2), (6, .v (.slice A3154 x3153.length c3154)), (10, I j2831), (11, B ((w64 (y3475.1)) == 0)), (12, I x3156), (13, I (w64 (y3475.1))), (46, I j2830), (47, I x3156)] [] (by kernel_rfl) trivial ?_
                    refine ro_end (by kernel_rfl) (fin_then ?_)
                    refine fin_join ((w64 (y3475.1)) == 0) hres [0, 0] [] (by kernel_rfl) (by kernel_rfl) (by kernel_rfl)
                · rw [if_neg (of_decide_eq_false c3477)] at hres
                  refine ro_q 9 [] [0, 1, 6, 10, 11, 12, 13, 46, 47] [(0, .p 0 0), (1, I a2), (6, .v (.slice A3154 x3153.length c3154)), (10, I j2831), (11, B false), (12, I x3156), (13, I (w64 (y3475.1))), (46, I j2830), (47, I x3156)] [] (by kernel_rfl) trivial ?_
                  refine ro_end (by kernel_rfl) (fin_then ?_)
                  refine fin_join false hres [0, 0] [] (by kernel_rfl) (by kernel_rfl) (by kernel_rfl)
              · rw [if_neg (nt_of_f c3476)] at hres
                refine ro_q 13 [] [0, 1, 6, 10, 11, 12, 13, 46, 47] [(0, .p 0 0), (1, I a2), (6, .v (.slice A3154 x3153.length c3154)), (10, I j2831), (11, B false), (12, I x3156), (13, I (w64 (y3475.1))), (46, I j2830), (47, I x3156)] [] (by kernel_rfl) trivial ?_
                refine ro_end (by kernel_rfl) (fin_then ?_)
                refine fin_join false hres [0, 0] [] (by kernel_rfl) (by kernel_rfl) (by kernel_rfl)
            · rintro j3779 hres
              unfold twcc_chunk.j3784 at hres
              refine rn_seq ?_
              refine rn_q [] [0, 1, 6, 10, 11, 13, 46, 47, 70] [(0, .p 0 0), (1, I a2), (6, .v (.slice A3154 x3153.length c3154)), (10, I j2831), (11, B j3779), (13, I (w64 (y3475.1))), (46, I j2830), (47, I x3156), (70, B (decide (x3156 < a2)))] [] (by kernel_rfl) trivial (fin_next ?_)
              refine rn_cond (decide (x3156 < a2)) (by kernel_rfl) (fun c3780 => ?_) (fun c3780 => ?_)
              · rw [if_pos (of_decide_eq_true c3780)] at hres
                refine rn_text ?_
                refine ro_q 2 [] [0, 1, 10, 11, 46, 47, 71, 72] [(0, .p 0 0), (1, I a2), (10, I j2831), (11, B j3779), (46, I j2830), (47, I x3156), (71, .v (.slice A3154 x3153.length c3154)), (72, I (w64 (y3475.1)))] [] (by kernel_rfl) trivial ?_
                refine ro_op (by kernel_rfl) (op_bslice (E := (eI .i64)) 31 3 1 #[(0, (.tmp 72))] 73 [w64 (y3475.1)] (by kernel_rfl) (by kernel_rfl) (by kernel_rfl) rfl (by decide) (by kernel_rfl) (fun b3781 => ro_fin ?_))
                refine bind_elim hres fun y3782 hy3782 hres => ?_
                refine ro_op (by kernel_rfl) (op_append (E := (eI .i64)) (lim := 17592186044416) 31 31 3 (.tmp 71) (.tmp 73) 74 A3154 (.slice (some ⟨b3781, 0, none⟩) 1 1) c3154 x3153 [w64 (y3475.1)] ((Try.prog.info? 3).get rfl) (((Try.prog.info? 3).get rfl).zero.get rfl) 2 [.a (slA 3 (eI .i64) (some ⟨b3781, 0, none⟩) 1 [w64 (y3475.1)]), .a (R_bits_Reader b0 y3475.2)] (by kernel_rfl) (by kernel_rfl) (by kernel_rfl) (by kernel_rfl) (by kernel_rfl) (by kernel_rfl) (by kernel_rfl) (by kernel_rfl) (by kernel_rfl) (Nat.le_of_ble_eq_true (by kernel_rfl)) (by decide) hy3782 (by kernel_rfl) (ap_sl (e := 3) (E := (eI .i64)) (B := (some ⟨b3781, 0, none⟩)) (c := 1) (M := [w64 (y3475.1)]) (by kernel_rfl) (by kernel_rfl) (row_at (U := 3) (E := (eI .i64)) (A := (some ⟨b3781, 0, none⟩)) (c := 1) (L := [w64 (y3475.1)]) 0 (by kernel_rfl))) (fun A3783 k3783 => ro_fin ?_))
                refine ro_q 1 [] [0, 1, 6, 10, 11, 46, 47] [(0, .p 0 0), (1, I a2), (6, .v (.slice A3783 y3782.length k3783)), (10, I j2831), (11, B j3779), (46, I j2830), (47, I x3156)] [] (by kernel_rfl) trivial ?_
                refine ro_end (by kernel_rfl) (fin_block (fin_next ?_))
                refine rn_q [] [0, 1, 6, 10, 11, 46, 47] [(0, .p 0 0), (1, I a2), (6, .v (.slice A3783 y3782.length k3783)), (10, I j2831), (11, B j3779), (46, I j2830), (47, I (w64 (x3156 + 1)))] [] (by kernel_rfl) trivial (fin_then ?_)
                refine fin_loop (y3782, j3779, w64 (x3156 + 1), y3475.2, A3783, k3783) hres [0, 1] [slA 3 (eI .i64) (some ⟨b3781, 0, none⟩) 1 [w64 (y3475.1)]] (by kernel_rfl) (by kernel_rfl) (by kernel_rfl)
              · rw [if_neg (of_decide_eq_false c3780)] at hres
                refine rn_skip (fin_block (fin_next ?_))
                refine rn_q [] [0, 1, 6, 10, 11, 46, 47] [(0, .p 0 0), (1, I a2), (6, .v (.slice A3154 x3153.length c3154)), (10, I j2831), (11, B j3779), (46, I j2830), (47, I (w64 (x3156 + 1)))] [] (by kernel_rfl) trivial (fin_then ?_)
                refine fin_loop (x3153, j3779, w64 (x3156 + 1), y3475.2, A3154, c3154) hres [1, 0] [] (by kernel_rfl) (by kernel_rfl) (by kernel_rfl)
          · rw [if_neg (of_decide_eq_false c3473)] at hres
            refine rn_exit (fin_then_exit (fin_then_exit (fin_block_exit (fin_next ?_))))
            refine rn_seq ?_
            refine rn_seq ?_
            refine rn_q [] [6, 77] [(6, .v (.slice A3154 x3153.length c3154)), (77, B (!x3155))] [] (by kernel_rfl) trivial (fin_next ?_)
            refine rn_cond (!x3155) (by kernel_rfl) (fun c3785 => ?_) (fun c3785 => ?_)
            · rw [if_neg (nt_of_f (nb_t c3785))] at hres
              refine rn_seq ?_
              refine rn_q [] [4, 5] [(4, .v (.slice none 0 0)), (5, I 100)] [] (by kernel_rfl) trivial (fin_next ?_)
              refine rn_ret (fin_then_ret ?_)
              refine fin_nil 3 (eI .i64) ?_
              refine fin_ret [.slice none 0 0, .int .i64 100] (by kernel_rfl) fun w' hw' => ?_
              have hq := Option.some.inj hres
              subst hq
              exact ⟨none, 0, rfl, hw'.take (L' := [slA 3 (eI .i64) none 0 [], R_bits_Reader b0 x3157]) [0, 1] [slA 3 (eI .i64) A3154 c3154 x3153] (by kernel_rfl)⟩
            · rw [if_pos ((nb_f c3785))] at hres
              refine rn_skip (fin_next ?_)
              refine rn_seq ?_
              refine rn_q [] [4, 5] [(4, .v (.slice A3154 x3153.length c3154)), (5, I 0)] [] (by kernel_rfl) trivial (fin_next ?_)
              refine rn_ret ?_
              refine fin_ret [.slice A3154 x3153.length c3154, .int .i64 0] (by kernel_rfl) fun w' hw' => ?_
              have hq := Option.some.inj hres
              subst hq
              exact ⟨A3154, c3154, rfl, hw'.take (L' := [slA 3 (eI .i64) A3154 c3154 x3153, R_bits_Reader b0 x3157]) [0, 0] [] (by kernel_rfl)⟩
structure S_api_Twcc where
  Sender : Int
  Media : Int
  First : Int
  Base : Int
  Count : Int
  Status : List Int
  Deltas : List Int
end Fl
