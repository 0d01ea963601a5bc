import Derived.Test.YtegfpljajjfpjaaFwT
import Derived.Test.YtegfpljajjfpjaaProg
import Derived.Test.YtegfpljajjfpjaaFd0
import Derived.Test.YtegfpljajjfpjaaFd2
import Derived.Test.YtegfpljajjfpjaaFd5
import Derived.Test.YtegfpljajjfpjaaFd7
import Derived.Test.YtegfpljajjfpjaaFd8
set_option linter.unusedVariables false
set_option maxRecDepth 100000
set_option maxHeartbeats 8000000
namespace Fl
open Go Go.Proofs Fw
/- 10 flywheel/flywheelref10.Encode -/
def ref10_Encode.j4726 (r1 : Int → S_ref06_Writer → Option (ByteArray × Int)) (a1 : S_api_Twcc) (x1604 : Int) (x1605 : S_ref06_Writer) (j4714 : Bool) : Option (ByteArray × Int) :=
  (if j4714 = true then (ref06_Writer_Put x1605 3 2).bind fun y4722 =>
  (lsl a1.Status x1604 (a1.Status.length : Int)).bind fun y4723 =>
  (ref10_row y4722 y4723 7 2).bind fun y4725 =>
  r1 (w64 (x1604 + (mn 7 (w64 ((a1.Status.length : Int) - x1604))))) y4725 else (ref06_Writer_Put x1605 2 2).bind fun y4717 =>
  (lsl a1.Status x1604 (a1.Status.length : Int)).bind fun y4718 =>
  (ref10_row y4717 y4718 14 1).bind fun y4720 =>
  r1 (w64 (x1604 + (mn 14 (w64 ((a1.Status.length : Int) - x1604))))) y4720)
def ref10_Encode.j4413 (r1 : Bool → Int → Option (ByteArray × Int)) (a1 : S_api_Twcc) (x1604 : Int) (x3801 : Bool) (x3802 : Int) : Option (ByteArray × Int) :=
  (if x3801 = true then r1 true (w64 (x3802 + 1)) else (idx a1.Status (w64 (x1604 + x3802))).bind fun y4412 =>
  r1 (y4412 == 2) (w64 (x3802 + 1)))
def ref10_Encode.l4108 (r1 : Int → S_ref06_Writer → Option (ByteArray × Int)) (a1 : S_api_Twcc) (x1604 : Int) (x1605 : S_ref06_Writer) : Nat → Bool → Int → Option (ByteArray × Int)
  | 0, _, _ => none
  | k + 1, x3801, x3802 =>
    (if x3802 < 14 then (if x3802 < (w64 ((a1.Status.length : Int) - x1604)) then ref10_Encode.j4413 (ref10_Encode.l4108 r1 a1 x1604 x1605 k) a1 x1604 x3801 x3802 else ref10_Encode.j4726 (r1) a1 x1604 x1605 x3801) else ref10_Encode.j4726 (r1) a1 x1604 x1605 x3801)
def ref10_Encode.j4727 (r1 : Int → S_ref06_Writer → Option (ByteArray × Int)) (a1 : S_api_Twcc) (x1604 : Int) (x1605 : S_ref06_Writer) : Option (ByteArray × Int) :=
  ref10_Encode.l4108 (r1) a1 x1604 x1605 FUEL false 0
def ref10_Encode.j3500 (r1 : Int → S_ref06_Writer → Option (ByteArray × Int)) (a1 : S_api_Twcc) (x1604 : Int) (x1605 : S_ref06_Writer) (y3189 : Int) (j3491 : Bool) : Option (ByteArray × Int) :=
  (if j3491 = true then (ref06_Writer_Put x1605 0 1).bind fun y3494 =>
  (idx a1.Status x1604).bind fun y3495 =>
  (ref06_Writer_Put y3494 (IntKind.wrap .u32 (y3495)) 2).bind fun y3497 =>
  (ref06_Writer_Put y3497 (IntKind.wrap .u32 (mn y3189 8191)) 13).bind fun y3499 =>
  r1 (w64 (x1604 + (mn y3189 8191))) y3499 else ref10_Encode.j4727 (r1) a1 x1604 x1605)
def ref10_Encode.l4755 (a1 : S_api_Twcc) : Nat → Int → Int → S_ref06_Writer → Option (ByteArray × Int)
  | 0, _, _, _ => none
  | k + 1, x4741, x4742, x4743 =>
    (if x4742 < (a1.Status.length : Int) then (idx a1.Status x4742).bind fun y4757 =>
  (if 0 < y4757 then (idx a1.Deltas x4741).bind fun y4759 =>
  (idx a1.Status x4742).bind fun y4760 =>
  (ref06_Writer_Put x4743 (IntKind.wrap .u32 (y4759)) (w64 (8 * y4760))).bind fun y4762 =>
  ref10_Encode.l4755 a1 k (w64 (x4741 + 1)) (w64 (x4742 + 1)) y4762 else ref10_Encode.l4755 a1 k x4741 (w64 (x4742 + 1)) x4743) else (ref06_Writer_Align x4743 32).bind fun y4764 =>
  (ref06_Writer_Text y4764).bind fun y4766 =>
  some (y4766, 0))
def ref10_Encode.l3186 (a1 : S_api_Twcc) : Nat → Int → S_ref06_Writer → Option (ByteArray × Int)
  | 0, _, _ => none
  | k + 1, x1604, x1605 =>
    (if x1604 < (a1.Status.length : Int) then (ref10_alike a1.Status x1604).bind fun y3189 =>
  (if 7 ≤ y3189 then ref10_Encode.j3500 (ref10_Encode.l3186 a1 k) a1 x1604 x1605 y3189 true else ref10_Encode.j3500 (ref10_Encode.l3186 a1 k) a1 x1604 x1605 y3189 (y3189 == (w64 ((a1.Status.length : Int) - x1604)))) else ref10_Encode.l4755 a1 FUEL 0 0 x1605)
def ref10_Encode (a1 : S_api_Twcc) : Option (ByteArray × Int) :=
  (ref10_Good a1).bind fun y6 =>
  (if y6 = true then (ref06_Write).bind fun y9 =>
  (ref06_Writer_Put y9 a1.Sender 32).bind fun y12 =>
  (ref06_Writer_Put y12 a1.Media 32).bind fun y14 =>
  (ref06_Writer_Put y14 (IntKind.wrap .u32 (a1.First)) 16).bind fun y16 =>
  (ref06_Writer_Put y16 (IntKind.wrap .u32 ((a1.Status.length : Int))) 16).bind fun y18 =>
  (ref06_Writer_Put y18 (bAnd .u32 (IntKind.wrap .u32 (a1.Base)) 16777215) 24).bind fun y20 =>
  (ref06_Writer_Put y20 (IntKind.wrap .u32 (a1.Count)) 8).bind fun y22 =>
  ref10_Encode.l3186 a1 FUEL 0 y22 else some ((⟨#[]⟩ : ByteArray), 1))
theorem ref10_Encode_ok {a1 : S_api_Twcc} {A2 : Option Addr} {k2 : Nat} {A3 : Option Addr} {k3 : Nat} {r : ByteArray × Int} (hres : ref10_Encode a1 = some r) {w0 w : World} {F : List Asn} (hA2 : RowT w0 F (eI .i64) A2 k2 a1.Status) (hA3 : RowT w0 F (eI .i64) A3 k3 a1.Deltas) (hw : SH w0 w (F)) :
    Calls Try.prog 10 #[.agg #[.int .u32 a1.Sender, .int .u32 a1.Media, .int .i64 a1.First, .int .i64 a1.Base, .int .i64 a1.Count, .slice A2 a1.Status.length k2, .slice A3 a1.Deltas.length k3]] w fun e w' => e = .returned (.tuple #[.string r.1, .int .i64 r.2]) ∧ SH w0 w' (F) := by
  refine fw_enter (n := 158) (bs := []) (env := [(0, .v (.agg #[.int .u32 a1.Sender, .int .u32 a1.Media, .int .i64 a1.First, .int .i64 a1.Base, .int .i64 a1.Count, .slice A2 a1.Status.length k2, .slice A3 a1.Deltas.length k3]))]) (H := []) (F := F) Try.func10 rfl (by kernel_rfl) (by kernel_rfl) (by kernel_rfl) (hw.eq (by kernel_rfl)) ?_
  unfold ref10_Encode at hres
  refine rn_seq ?_
  refine rn_text ?_
  refine ro_op (by kernel_rfl) (op_box 43 (.tmp 0) (.v (.agg #[.int .u32 a1.Sender, .int .u32 a1.Media, .int .i64 a1.First, .int .i64 a1.Base, .int .i64 a1.Count, .slice A2 a1.Status.length k2, .slice A3 a1.Deltas.length k3])) 1 [U .u32 a1.Sender, U .u32 a1.Media, I a1.First, I a1.Base, I a1.Count, .v (.slice A2 a1.Status.length k2), .v (.slice A3 a1.Deltas.length k3)] (fun b4 => [b4]) (fun b4 => [.c 0 [U .u32 a1.Sender, U .u32 a1.Media, I a1.First, I a1.Base, I a1.Count, .v (.slice A2 a1.Status.length k2), .v (.slice A3 a1.Deltas.length k3)] 43]) (by kernel_rfl) (by kernel_rfl) (by kernel_rfl) (by kernel_rfl) 0 (fun _ => by kernel_rfl) (fun _ => mt_bs (by kernel_rfl)) (fun _ => by kernel_rfl) (fun b4 => ro_fin ?_))
  refine ro_q 2 [] [1] [(1, .p 0 0)] [] (by kernel_rfl) trivial ?_
  refine ro_end (by kernel_rfl) (fin_next ?_)
  refine rn_seq ?_
  refine rn_seq ?_
  refine rn_text ?_
  refine ro_q 1 [] [1, 13] [(1, .p 0 0), (13, .v (.agg #[.int .u32 a1.Sender, .int .u32 a1.Media, .int .i64 a1.First, .int .i64 a1.Base, .int .i64 a1.Count, .slice A2 a1.Status.length k2, .slice A3 a1.Deltas.length k3]))] [] (by kernel_rfl) trivial ?_
  refine bind_elim hres fun y6 hy6 hres => ?_
  refine ro_op (by kernel_rfl) (op_call (f := 15) (xs := #[(.tmp 13)]) (ats := #[43]) (d := (some 14)) (args := #[.agg #[.int .u32 a1.Sender, .int .u32 a1.Media, .int .i64 a1.First, .int .i64 a1.Base, .int .i64 a1.Count, .slice A2 a1.Status.length k2, .slice A3 a1.Deltas.length k3]]) (by kernel_rfl) (by kernel_rfl) (by kernel_rfl) (by kernel_rfl) fun w hw => (ref10_Good_ok hy6 hA2.app hA3.app hw).mono ?_)
  rintro _ w1 ⟨rfl, hw1⟩
  refine ⟨_, [b4], [.c 0 [U .u32 a1.Sender, U .u32 a1.Media, I a1.First, I a1.Base, I a1.Count, .v (.slice A2 a1.Status.length k2), .v (.slice A3 a1.Deltas.length k3)] 43], _, rfl, hw1.eq (by kernel_rfl), rfl, mt_same, ro_fin ?_⟩
  refine ro_q 1 [] [1, 15] [(1, .p 0 0), (15, B (!y6))] [] (by kernel_rfl) trivial ?_
  refine ro_end (by kernel_rfl) (fin_next ?_)
  refine rn_cond (!y6) (by kernel_rfl) (fun c7 => ?_) (fun c7 => ?_)
  · rw [if_neg (nt_of_f (nb_t c7))] at hres
    refine rn_seq ?_
    refine rn_q [] [2, 3] [(2, S (⟨#[]⟩ : ByteArray)), (3, I 1)] [] (by kernel_rfl) trivial (fin_next ?_)
    refine rn_ret (fin_then_ret ?_)
    refine fin_ret [.string (⟨#[]⟩ : ByteArray), .int .i64 1] (by kernel_rfl) fun w' hw' => ?_
    have hq := Option.some.inj hres
    subst hq
    exact ⟨rfl, hw'.drop⟩
  · rw [if_pos ((nb_f c7))] at hres
    refine rn_skip (fin_next ?_)
    refine rn_seq ?_
    refine rn_text ?_
    refine bind_elim hres fun y9 hy9 hres => ?_
    refine ro_op (by kernel_rfl) (op_callp (f := 16) (xs := #[]) (ats := #[]) (d := (some 16)) (args := #[]) (by kernel_rfl) (by kernel_rfl) (by kernel_rfl) (by kernel_rfl) fun w hw => (ref06_Write_ok hy9 hw).mono ?_)
    rintro _ w1 ⟨b10, rfl, hw1⟩
    refine ⟨_, [b4, b10], [.a (R_ref06_Writer b10 y9), .c 0 [U .u32 a1.Sender, U .u32 a1.Media, I a1.First, I a1.Base, I a1.Count, .v (.slice A2 a1.Status.length k2), .v (.slice A3 a1.Deltas.length k3)] 43], _, [(16, .p 1 0), (1, .p 0 0), (15, B (!y6))], rfl, hw1.eq (by kernel_rfl), rfl, mt_conv (by kernel_rfl) (by kernel_rfl), ro_fin ?_⟩
    refine ro_q 1 [] [1, 4] [(1, .p 0 0), (4, .p 1 0)] [] (by kernel_rfl) trivial ?_
    refine ro_end (by kernel_rfl) (fin_next ?_)
    refine rn_seq ?_
    refine rn_text ?_
    refine ro_q 3 [] [1, 4, 17, 19] [(1, .p 0 0), (4, .p 1 0), (17, .p 1 0), (19, U .u32 a1.Sender)] [] (by kernel_rfl) trivial ?_
    refine bind_elim hres fun y12 hy12 hres => ?_
    refine ro_op (by kernel_rfl) (op_call (f := 17) (xs := #[(.tmp 17), (.tmp 19), (.const (.int .i64 32))]) (ats := #[63, 41, 3]) (d := (some 20)) (args := #[.pointer (some ⟨b10, 0, none⟩), .int .u32 a1.Sender, .int .i64 32]) (by kernel_rfl) (by kernel_rfl) (by kernel_rfl) (by kernel_rfl) fun w hw => (ref06_Writer_Put_ok (F := [cellsA b4 [.int .u32 a1.Sender, .int .u32 a1.Media, .int .i64 a1.First, .int .i64 a1.Base, .int .i64 a1.Count, .slice A2 a1.Status.length k2, .slice A3 a1.Deltas.length k3] 43] ++ F) hy12 (hw.sel [0] (by kernel_rfl : _ = [R_ref06_Writer b10 y9] ++ ([cellsA b4 [.int .u32 a1.Sender, .int .u32 a1.Media, .int .i64 a1.First, .int .i64 a1.Base, .int .i64 a1.Count, .slice A2 a1.Status.length k2, .slice A3 a1.Deltas.length k3] 43] ++ F)))).mono ?_)
    rintro _ w1 ⟨rfl, hw1⟩
    refine ⟨_, [b4, b10], [.a (R_ref06_Writer b10 y12), .c 0 [U .u32 a1.Sender, U .u32 a1.Media, I a1.First, I a1.Base, I a1.Count, .v (.slice A2 a1.Status.length k2), .v (.slice A3 a1.Deltas.length k3)] 43], _, rfl, hw1.eq (by kernel_rfl), rfl, mt_same, ro_fin ?_⟩
    refine ro_end (by kernel_rfl) (fin_next ?_)
    refine rn_seq ?_
    refine rn_text ?_
    refine ro_q 3 [] [1, 4, 21, 23] [(1, .p 0 0), (4, .p 1 0), (21, .p 1 0), (23, U .u32 a1.Media)] [] (by kernel_rfl) trivial ?_
    refine bind_elim hres fun y14 hy14 hres => ?_
    refine ro_op (by kernel_rfl) (op_call (f := 17) (xs := #[(.tmp 21), (.tmp 23), (.const (.int .i64 32))]) (ats := #[63, 41, 3]) (d := (some 24)) (args := #[.pointer (some ⟨b10, 0, none⟩), .int .u32 a1.Media, .int .i64 32]) (by kernel_rfl) (by kernel_rfl) (by kernel_rfl) (by kernel_rfl) fun w hw => (ref06_Writer_Put_ok (F := [cellsA b4 [.int .u32 a1.Sender, .int .u32 a1.Media, .int .i64 a1.First, .int .i64 a1.Base, .int .i64 a1.Count, .slice A2 a1.Status.length k2, .slice A3 a1.Deltas.length k3] 43] ++ F) hy14 (hw.sel [0] (by kernel_rfl : _ = [R_ref06_Writer b10 y12] ++ ([cellsA b4 [.int .u32 a1.Sender, .int .u32 a1.Media, .int .i64 a1.First, .int .i64 a1.Base, .int .i64 a1.Count, .slice A2 a1.Status.length k2, .slice A3 a1.Deltas.length k3] 43] ++ F)))).mono ?_)
    rintro _ w1 ⟨rfl, hw1⟩
    refine ⟨_, [b4, b10], [.a (R_ref06_Writer b10 y14), .c 0 [U .u32 a1.Sender, U .u32 a1.Media, I a1.First, I a1.Base, I a1.Count, .v (.slice A2 a1.Status.length k2), .v (.slice A3 a1.Deltas.length k3)] 43], _, rfl, hw1.eq (by kernel_rfl), rfl, mt_same, ro_fin ?_⟩
    refine ro_end (by kernel_rfl) (fin_next ?_)
    refine rn_seq ?_
    refine rn_text ?_
    refine ro_q 4 [] [1, 4, 25, 28] [(1, .p 0 0), (4, .p 1 0), (25, .p 1 0), (28, U .u32 (IntKind.wrap .u32 (a1.First)))] [] (by kernel_rfl) trivial ?_
    refine bind_elim hres fun y16 hy16 hres => ?_
    refine ro_op (by kernel_rfl) (op_call (f := 17) (xs := #[(.tmp 25), (.tmp 28), (.const (.int .i64 16))]) (ats := #[63, 41, 3]) (d := (some 29)) (args := #[.pointer (some ⟨b10, 0, none⟩), .int .u32 (IntKind.wrap .u32 (a1.First)), .int .i64 16]) (by kernel_rfl) (by kernel_rfl) (by kernel_rfl) (by kernel_rfl) fun w hw => (ref06_Writer_Put_ok (F := [cellsA b4 [.int .u32 a1.Sender, .int .u32 a1.Media, .int .i64 a1.First, .int .i64 a1.Base, .int .i64 a1.Count, .slice A2 a1.Status.length k2, .slice A3 a1.Deltas.length k3] 43] ++ F) hy16 (hw.sel [0] (by kernel_rfl : _ = [R_ref06_Writer b10 y14] ++ ([cellsA b4 [.int .u32 a1.Sender, .int .u32 a1.Media, .int .i64 a1.First, .int .i64 a1.Base, .int .i64 a1.Count, .slice A2 a1.Status.length k2, .slice A3 a1.Deltas.length k3] 43] ++ F)))).mono ?_)
    rintro _ w1 ⟨rfl, hw1⟩
    refine ⟨_, [b4, b10], [.a (R_ref06_Writer b10 y16), .c 0 [U .u32 a1.Sender, U .u32 a1.Media, I a1.First, I a1.Base, I a1.Count, .v (.slice A2 a1.Status.length k2), .v (.slice A3 a1.Deltas.length k3)] 43], _, rfl, hw1.eq (by kernel_rfl), rfl, mt_same, ro_fin ?_⟩
    refine ro_end (by kernel_rfl) (fin_next ?_)
    refine rn_seq ?_
    refine rn_text ?_
    refine ro_q 5 [] [1, 4, 30, 34] [(1, .p 0 0), (4, .p 1 0), (30, .p 1 0), (34, U .u32 (IntKind.wrap .u32 ((a1.Status.length : Int))))] [] (by kernel_rfl) trivial ?_
    refine bind_elim hres fun y18 hy18 hres => ?_
    refine ro_op (by kernel_rfl) (op_call (f := 17) (xs := #[(.tmp 30), (.tmp 34), (.const (.int .i64 16))]) (ats := #[63, 41, 3]) (d := (some 35)) (args := #[.pointer (some ⟨b10, 0, none⟩), .int .u32 (IntKind.wrap .u32 ((a1.Status.length : Int))), .int .i64 16]) (by kernel_rfl) (by kernel_rfl) (by kernel_rfl) (by kernel_rfl) fun w hw => (ref06_Writer_Put_ok (F := [cellsA b4 [.int .u32 a1.Sender, .int .u32 a1.Media, .int .i64 a1.First, .int .i64 a1.Base, .int .i64 a1.Count, .slice A2 a1.Status.length k2, .slice A3 a1.Deltas.length k3] 43] ++ F) hy18 (hw.sel [0] (by kernel_rfl : _ = [R_ref06_Writer b10 y16] ++ ([cellsA b4 [.int .u32 a1.Sender, .int .u32 a1.Media, .int .i64 a1.First, .int .i64 a1.Base, .int .i64 a1.Count, .slice A2 a1.Status.length k2, .slice A3 a1.Deltas.length k3] 43] ++ F)))).mono ?_)
    rintro _ w1 ⟨rfl, hw1⟩
    refine ⟨_, [b4, b10], [.a (R_ref06_Writer b10 y18), .c 0 [U .u32 a1.Sender, U .u32 a1.Media, I a1.First, I a1.Base, I a1.Count, .v (.slice A2 a1.Status.length k2), .v (.slice A3 a1.Deltas.length k3)] 43], _, rfl, hw1.eq (by kernel_rfl), rfl, mt_same, ro_fin ?_⟩
    refine ro_end (by kernel_rfl) (fin_next ?_)
    refine rn_seq ?_
    refine rn_text ?_
    refine ro_q 5 [] [1, 4, 36, 40] [(1, .p 0 0), (4, .p 1 0), (36, .p 1 0), (40, U .u32 (bAnd .u32 (IntKind.wrap .u32 (a1.Base)) 16777215))] [] (by kernel_rfl) trivial ?_
    refine bind_elim hres fun y20 hy20 hres => ?_
    refine ro_op (by kernel_rfl) (op_call (f := 17) (xs := #[(.tmp 36), (.tmp 40), (.const (.int .i64 24))]) (ats := #[63, 41, 3]) (d := (some 41)) (args := #[.pointer (some ⟨b10, 0, none⟩), .int .u32 (bAnd .u32 (IntKind.wrap .u32 (a1.Base)) 16777215), .int .i64 24]) (by kernel_rfl) (by kernel_rfl) (by kernel_rfl) (by kernel_rfl) fun w hw => (ref06_Writer_Put_ok (F := [cellsA b4 [.int .u32 a1.Sender, .int .u32 a1.Media, .int .i64 a1.First, .int .i64 a1.Base, .int .i64 a1.Count, .slice A2 a1.Status.length k2, .slice A3 a1.Deltas.length k3] 43] ++ F) hy20 (hw.sel [0] (by kernel_rfl : _ = [R_ref06_Writer b10 y18] ++ ([cellsA b4 [.int .u32 a1.Sender, .int .u32 a1.Media, .int .i64 a1.First, .int .i64 a1.Base, .int .i64 a1.Count, .slice A2 a1.Status.length k2, .slice A3 a1.Deltas.length k3] 43] ++ F)))).mono ?_)
    rintro _ w1 ⟨rfl, hw1⟩
    refine ⟨_, [b4, b10], [.a (R_ref06_Writer b10 y20), .c 0 [U .u32 a1.Sender, U .u32 a1.Media, I a1.First, I a1.Base, I a1.Count, .v (.slice A2 a1.Status.length k2), .v (.slice A3 a1.Deltas.length k3)] 43], _, rfl, hw1.eq (by kernel_rfl), rfl, mt_same, ro_fin ?_⟩
    refine ro_end (by kernel_rfl) (fin_next ?_)
    refine rn_seq ?_
    refine rn_text ?_
    refine ro_q 4 [] [1, 4, 42, 45] [(1, .p 0 0), (4, .p 1 0), (42, .p 1 0), (45, U .u32 (IntKind.wrap .u32 (a1.Count)))] [] (by kernel_rfl) trivial ?_
    refine bind_elim hres fun y22 hy22 hres => ?_
    refine ro_op (by kernel_rfl) (op_call (f := 17) (xs := #[(.tmp 42), (.tmp 45), (.const (.int .i64 8))]) (ats := #[63, 41, 3]) (d := (some 46)) (args := #[.pointer (some ⟨b10, 0, none⟩), .int .u32 (IntKind.wrap .u32 (a1.Count)), .int .i64 8]) (by kernel_rfl) (by kernel_rfl) (by kernel_rfl) (by kernel_rfl) fun w hw => (ref06_Writer_Put_ok (F := [cellsA b4 [.int .u32 a1.Sender, .int .u32 a1.Media, .int .i64 a1.First, .int .i64 a1.Base, .int .i64 a1.Count, .slice A2 a1.Status.length k2, .slice A3 a1.Deltas.length k3] 43] ++ F) hy22 (hw.sel [0] (by kernel_rfl : _ = [R_ref06_Writer b10 y20] ++ ([cellsA b4 [.int .u32 a1.Sender, .int .u32 a1.Media, .int .i64 a1.First, .int .i64 a1.Base, .int .i64 a1.Count, .slice A2 a1.Status.length k2, .slice A3 a1.Deltas.length k3] 43] ++ F)))).mono ?_)
    rintro _ w1 ⟨rfl, hw1⟩
    refine ⟨_, [b4, b10], [.a (R_ref06_Writer b10 y22), .c 0 [U .u32 a1.Sender, U .u32 a1.Media, I a1.First, I a1.Base, I a1.Count, .v (.slice A2 a1.Status.length k2), .v (.slice A3 a1.Deltas.length k3)] 43], _, rfl, hw1.eq (by kernel_rfl), rfl, mt_same, ro_fin ?_⟩
    refine ro_end (by kernel_rfl) (fin_next ?_)
    refine rn_seq ?_
    refine rn_q [] [1, 4, 5] [(1, .p 0 0), (4, .p 1 0), (5, .v (.slice A2 a1.Status.length k2))] [] (by kernel_rfl) trivial (fin_next ?_)
    refine rn_seq ?_
    refine rn_seq ?_
    refine rn_q [] [1, 4, 5, 6] [(1, .p 0 0), (4, .p 1 0), (5, .v (.slice A2 a1.Status.length k2)), (6, I 0)] [] (by kernel_rfl) trivial (fin_next ?_)
    refine rn_block ?_
    refine rn_loop (V := Int × S_ref06_Writer) (J := fun k v => ref10_Encode.l3186 a1 k v.1 v.2 = some r) (sv := fun v => ⟨[b4, b10], [(1, .p 0 0), (4, .p 1 0), (5, .v (.slice A2 a1.Status.length k2)), (6, I v.1)], [.a (R_ref06_Writer b10 v.2), .c 0 [U .u32 a1.Sender, U .u32 a1.Media, I a1.First, I a1.Base, I a1.Count, .v (.slice A2 a1.Status.length k2), .v (.slice A3 a1.Deltas.length k3)] 43]⟩) FUEL (0, y22) hres (fun a w hs => hs.conv [0, 0] (by kernel_rfl) (by kernel_rfl) ⟨[], by kernel_rfl⟩) ?_
    rintro k3186 ⟨x1604, x1605⟩ hres
    rcases k3186 with _ | k3186
    · rw [ref10_Encode.l3186] at hres; cases hres
    · rw [ref10_Encode.l3186] at hres
      refine rn_seq ?_
      refine rn_seq ?_
      refine rn_q [] [1, 4, 5, 6, 52] [(1, .p 0 0), (4, .p 1 0), (5, .v (.slice A2 a1.Status.length k2)), (6, I x1604), (52, B (decide (x1604 < (a1.Status.length : Int))))] [] (by kernel_rfl) trivial (fin_next ?_)
      refine rn_cond (decide (x1604 < (a1.Status.length : Int))) (by kernel_rfl) (fun c3187 => ?_) (fun c3187 => ?_)
      · rw [if_pos (of_decide_eq_true c3187)] at hres
        refine rn_skip (fin_next ?_)
        refine rn_block ?_
        refine rn_seq ?_
        refine rn_q [] [1, 4, 5, 6, 7] [(1, .p 0 0), (4, .p 1 0), (5, .v (.slice A2 a1.Status.length k2)), (6, I x1604), (7, I (w64 ((a1.Status.length : Int) - x1604)))] [] (by kernel_rfl) trivial (fin_next ?_)
        refine rn_seq ?_
        refine rn_text ?_
        refine ro_q 2 [] [1, 4, 5, 6, 7, 57, 58] [(1, .p 0 0), (4, .p 1 0), (5, .v (.slice A2 a1.Status.length k2)), (6, I x1604), (7, I (w64 ((a1.Status.length : Int) - x1604))), (57, .v (.slice A2 a1.Status.length k2)), (58, I x1604)] [] (by kernel_rfl) trivial ?_
        refine bind_elim hres fun y3189 hy3189 hres => ?_
        refine ro_op (by kernel_rfl) (op_call (f := 18) (xs := #[(.tmp 57), (.tmp 58)]) (ats := #[31, 3]) (d := (some 59)) (args := #[.slice A2 a1.Status.length k2, .int .i64 x1604]) (by kernel_rfl) (by kernel_rfl) (by kernel_rfl) (by kernel_rfl) fun w hw => (ref10_alike_ok hy3189 hA2.app hw).mono ?_)
        rintro _ w1 ⟨rfl, hw1⟩
        refine ⟨_, [b4, b10], [.a (R_ref06_Writer b10 x1605), .c 0 [U .u32 a1.Sender, U .u32 a1.Media, I a1.First, I a1.Base, I a1.Count, .v (.slice A2 a1.Status.length k2), .v (.slice A3 a1.Deltas.length k3)] 43], _, rfl, hw1.eq (by kernel_rfl), rfl, mt_same, ro_fin ?_⟩
        refine ro_q 1 [] [1, 4, 5, 6, 7, 8] [(1, .p 0 0), (4, .p 1 0), (5, .v (.slice A2 a1.Status.length k2)), (6, I x1604), (7, I (w64 ((a1.Status.length : Int) - x1604))), (8, I y3189)] [] (by kernel_rfl) trivial ?_
        refine ro_end (by kernel_rfl) (fin_next ?_)
        refine rn_join (V := Unit) (J := fun v => ref10_Encode.j4727 (ref10_Encode.l3186 a1 k3186) a1 x1604 x1605 = some r) (sv := fun v => ⟨[b4, b10], [(1, .p 0 0), (4, .p 1 0), (5, .v (.slice A2 a1.Status.length k2)), (6, I x1604), (7, I (w64 ((a1.Status.length : Int) - x1604)))], [.a (R_ref06_Writer b10 x1605), .c 0 [U .u32 a1.Sender, U .u32 a1.Media, I a1.First, I a1.Base, I a1.Count, .v (.slice A2 a1.Status.length k2), .v (.slice A3 a1.Deltas.length k3)] 43]⟩) ?_ ?_
        · refine rn_join (V := Bool) (J := fun v => ref10_Encode.j3500 (ref10_Encode.l3186 a1 k3186) a1 x1604 x1605 y3189 v = some r) (sv := fun v => ⟨[b4, b10], [(1, .p 0 0), (4, .p 1 0), (5, .v (.slice A2 a1.Status.length k2)), (6, I x1604), (7, I (w64 ((a1.Status.length : Int) - x1604))), (8, I y3189), (66, B v)], [.a (R_ref06_Writer b10 x1605), .c 0 [U .u32 a1.Sender, U .u32 a1.Media, I a1.First, I a1.Base, I a1.Count, .v (.slice A2 a1.Status.length k2), .v (.slice A3 a1.Deltas.length k3)] 43]⟩) ?_ ?_
          · refine rn_text ?_
            refine ro_q 3 [] [1, 4, 5, 6, 7, 8, 62] [(1, .p 0 0), (4, .p 1 0), (5, .v (.slice A2 a1.Status.length k2)), (6, I x1604), (7, I (w64 ((a1.Status.length : Int) - x1604))), (8, I y3189), (62, B (decide (7 ≤ y3189)))] [] (by kernel_rfl) trivial ?_
            refine ro_split 62 (decide (7 ≤ y3189)) (by kernel_rfl) (fun c3190 => ?_) (fun c3190 => ?_)
            · rw [if_pos (of_decide_eq_true c3190)] at hres
              refine ro_q 4 [] [1, 4, 5, 6, 7, 8, 66] [(1, .p 0 0), (4, .p 1 0), (5, .v (.slice A2 a1.Status.length k2)), (6, I x1604), (7, I (w64 ((a1.Status.length : Int) - x1604))), (8, I y3189), (66, B true)] [] (by kernel_rfl) trivial ?_
              refine ro_end (by kernel_rfl) (fin_then ?_)
              refine fin_join true hres [0, 0] [] (by kernel_rfl) (by kernel_rfl) (by kernel_rfl)
            · rw [if_neg (of_decide_eq_false c3190)] at hres
              refine ro_q 4 [] [1, 4, 5, 6, 7, 8, 66] [(1, .p 0 0), (4, .p 1 0), (5, .v (.slice A2 a1.Status.length k2)), (6, I x1604), (7, I (w64 ((a1.Status.length : Int) - x1604))), (8, I y3189), (66, B (y3189 == (w64 ((a1.Status.length : Int) - x1604))))] [] (by kernel_rfl) trivial ?_
              refine ro_end (by kernel_rfl) (fin_then ?_)
              refine fin_join (y3189 == (w64 ((a1.Status.length : Int) - x1604))) hres [0, 0] [] (by kernel_rfl) (by kernel_rfl) (by kernel_rfl)
          · rintro j3491 hres
            unfold ref10_Encode.j3500 at hres
            refine rn_cond (j3491) (by kernel_rfl) (fun c3492 => ?_) (fun c3492 => ?_)
            · rw [if_pos (c3492)] at hres
              refine rn_seq ?_
              refine rn_q [] [1, 4, 5, 6, 8] [(1, .p 0 0), (4, .p 1 0), (5, .v (.slice A2 a1.Status.length k2)), (6, I x1604), (8, I (mn y3189 8191))] [] (by kernel_rfl) trivial (fin_next ?_)
              refine rn_seq ?_
              refine rn_text ?_
              refine ro_q 1 [] [1, 4, 5, 6, 8, 69] [(1, .p 0 0), (4, .p 1 0), (5, .v (.slice A2 a1.Status.length k2)), (6, I x1604), (8, I (mn y3189 8191)), (69, .p 1 0)] [] (by kernel_rfl) trivial ?_
              refine bind_elim hres fun y3494 hy3494 hres => ?_
              refine ro_op (by kernel_rfl) (op_call (f := 17) (xs := #[(.tmp 69), (.const (.int .u32 0)), (.const (.int .i64 1))]) (ats := #[63, 41, 3]) (d := (some 70)) (args := #[.pointer (some ⟨b10, 0, none⟩), .int .u32 0, .int .i64 1]) (by kernel_rfl) (by kernel_rfl) (by kernel_rfl) (by kernel_rfl) fun w hw => (ref06_Writer_Put_ok (F := [cellsA b4 [.int .u32 a1.Sender, .int .u32 a1.Media, .int .i64 a1.First, .int .i64 a1.Base, .int .i64 a1.Count, .slice A2 a1.Status.length k2, .slice A3 a1.Deltas.length k3] 43] ++ F) hy3494 (hw.sel [0] (by kernel_rfl : _ = [R_ref06_Writer b10 x1605] ++ ([cellsA b4 [.int .u32 a1.Sender, .int .u32 a1.Media, .int .i64 a1.First, .int .i64 a1.Base, .int .i64 a1.Count, .slice A2 a1.Status.length k2, .slice A3 a1.Deltas.length k3] 43] ++ F)))).mono ?_)
              rintro _ w1 ⟨rfl, hw1⟩
              refine ⟨_, [b4, b10], [.a (R_ref06_Writer b10 y3494), .c 0 [U .u32 a1.Sender, U .u32 a1.Media, I a1.First, I a1.Base, I a1.Count, .v (.slice A2 a1.Status.length k2), .v (.slice A3 a1.Deltas.length k3)] 43], _, rfl, hw1.eq (by kernel_rfl), rfl, mt_same, ro_fin ?_⟩
              refine ro_end (by kernel_rfl) (fin_next ?_)
              refine rn_seq ?_
              refine bind_elim hres fun y3495 hy3495 hres => ?_
              refine rn_text ?_
              refine ro_q 6 [(3, .v (elP A2 (x1604.toNat * 1 + 0))), (4, I y3495)] [1, 4, 5, 6, 8, 71, 76] [(1, .p 0 0), (4, .p 1 0), (5, .v (.slice A2 a1.Status.length k2)), (6, I x1604), (8, I (mn y3189 8191)), (71, .p 1 0), (76, U .u32 (IntKind.wrap .u32 (y3495)))] [(smIa 31 (.slice A2 a1.Status.length k2) (.int .i64 x1604), elP A2 (x1604.toNat * 1 + 0)), (smLd 3 (elP A2 (x1604.toNat * 1 + 0)), .int .i64 y3495)] (by kernel_rfl) ⟨ob_ia (E := (eI .i64)) (U := 3) (i := x1604) (sz := 1) (by kernel_rfl) (by kernel_rfl) (by kernel_rfl) hA2.app hy3495, ⟨ob_ld1 (E := (eI .i64)) (i := x1604) (sz := 1) (o := 0) (d := (.int .i64)) (by kernel_rfl) (by kernel_rfl) (by kernel_rfl) (by kernel_rfl) hA2.app hy3495, trivial⟩⟩ ?_
              refine bind_elim hres fun y3497 hy3497 hres => ?_
              refine ro_op (by kernel_rfl) (op_call (f := 17) (xs := #[(.tmp 71), (.tmp 76), (.const (.int .i64 2))]) (ats := #[63, 41, 3]) (d := (some 77)) (args := #[.pointer (some ⟨b10, 0, none⟩), .int .u32 (IntKind.wrap .u32 (y3495)), .int .i64 2]) (by kernel_rfl) (by kernel_rfl) (by kernel_rfl) (by kernel_rfl) fun w hw => (ref06_Writer_Put_ok (F := [cellsA b4 [.int .u32 a1.Sender, .int .u32 a1.Media, .int .i64 a1.First, .int .i64 a1.Base, .int .i64 a1.Count, .slice A2 a1.Status.length k2, .slice A3 a1.Deltas.length k3] 43] ++ F) hy3497 (hw.sel [0] (by kernel_rfl : _ = [R_ref06_Writer b10 y3494] ++ ([cellsA b4 [.int .u32 a1.Sender, .int .u32 a1.Media, .int .i64 a1.First, .int .i64 a1.Base, .int .i64 a1.Count, .slice A2 a1.Status.length k2, .slice A3 a1.Deltas.length k3] 43] ++ F)))).mono ?_)
              rintro _ w1 ⟨rfl, hw1⟩
              refine ⟨_, [b4, b10], [.a (R_ref06_Writer b10 y3497), .c 0 [U .u32 a1.Sender, U .u32 a1.Media, I a1.First, I a1.Base, I a1.Count, .v (.slice A2 a1.Status.length k2), .v (.slice A3 a1.Deltas.length k3)] 43], _, rfl, hw1.eq (by kernel_rfl), rfl, mt_same, ro_fin ?_⟩
              refine ro_end (by kernel_rfl) (fin_next ?_)
              refine rn_seq ?_
              refine rn_text ?_
              refine ro_q 3 [] [1, 4, 5, 6, 8, 78, 80] [(1, .p 0 0), (4, .p 1 0), (5, .v (.slice A2 a1.Status.length k2)), (6, I x1604), (8, I (mn y3189 8191)), (78, .p 1 0), (80, U .u32 (IntKind.wrap .u32 (mn y3189 8191)))] [] (by kernel_rfl) trivial ?_
              refine bind_elim hres fun y3499 hy3499 hres => ?_
              refine ro_op (by kernel_rfl) (op_call (f := 17) (xs := #[(.tmp 78), (.tmp 80), (.const (.int .i64 13))]) (ats := #[63, 41, 3]) (d := (some 81)) (args := #[.pointer (some ⟨b10, 0, none⟩), .int .u32 (IntKind.wrap .u32 (mn y3189 8191)), .int .i64 13]) (by kernel_rfl) (by kernel_rfl) (by kernel_rfl) (by kernel_rfl) fun w hw => (ref06_Writer_Put_ok (F := [cellsA b4 [.int .u32 a1.Sender, .int .u32 a1.Media, .int .i64 a1.First, .int .i64 a1.Base, .int .i64 a1.Count, .slice A2 a1.Status.length k2, .slice A3 a1.Deltas.length k3] 43] ++ F) hy3499 (hw.sel [0] (by kernel_rfl : _ = [R_ref06_Writer b10 y3497] ++ ([cellsA b4 [.int .u32 a1.Sender, .int .u32 a1.Media, .int .i64 a1.First, .int .i64 a1.Base, .int .i64 a1.Count, .slice A2 a1.Status.length k2, .slice A3 a1.Deltas.length k3] 43] ++ F)))).mono ?_)
              rintro _ w1 ⟨rfl, hw1⟩
              refine ⟨_, [b4, b10], [.a (R_ref06_Writer b10 y3499), .c 0 [U .u32 a1.Sender, U .u32 a1.Media, I a1.First, I a1.Base, I a1.Count, .v (.slice A2 a1.Status.length k2), .v (.slice A3 a1.Deltas.length k3)] 43], _, rfl, hw1.eq (by kernel_rfl), rfl, mt_same, ro_fin ?_⟩
              refine ro_end (by kernel_rfl) (fin_next ?_)
              refine rn_seq ?_
              refine rn_q [] [1, 4, 5, 6] [(1, .p 0 0), (4, .p 1 0), (5, .v (.slice A2 a1.Status.length k2)), (6, I (w64 (x1604 + (mn y3189 8191))))] [] (by kernel_rfl) trivial (fin_next ?_)
              refine rn_exit (fin_then_exit (fin_block_exit (fin_then ?_)))
              refine fin_loop (w64 (x1604 + (mn y3189 8191)), y3499) hres [0, 0] [] (by kernel_rfl) (by kernel_rfl) (by kernel_rfl)
            · rw [if_neg (nt_of_f c3492)] at hres
              refine rn_skip (fin_then ?_)
              refine fin_join () hres [0, 0] [] (by kernel_rfl) (by kernel_rfl) (by kernel_rfl)
        · rintro ⟨⟩ hres
          unfold ref10_Encode.j4727 at hres
          refine rn_seq ?_
          refine rn_q [] [1, 4, 5, 6, 7, 9] [(1, .p 0 0), (4, .p 1 0), (5, .v (.slice A2 a1.Status.length k2)), (6, I x1604), (7, I (w64 ((a1.Status.length : Int) - x1604))), (9, B false)] [] (by kernel_rfl) trivial (fin_next ?_)
          refine rn_join (V := Bool) (J := fun v => ref10_Encode.j4726 (ref10_Encode.l3186 a1 k3186) a1 x1604 x1605 v = some r) (sv := fun v => ⟨[b4, b10], [(1, .p 0 0), (4, .p 1 0), (5, .v (.slice A2 a1.Status.length k2)), (6, I x1604), (7, I (w64 ((a1.Status.length : Int) - x1604))), (9, B v)], [.a (R_ref06_Writer b10 x1605), .c 0 [U .u32 a1.Sender, U .u32 a1.Media, I a1.First, I a1.Base, I a1.Count, .v (.slice A2 a1.Status.length k2), .v (.slice A3 a1.Deltas.length k3)] 43]⟩) ?_ ?_
          · refine rn_seq ?_
            refine rn_q [] [1, 4, 5, 6, 7, 9, 10] [(1, .p 0 0), (4, .p 1 0), (5, .v (.slice A2 a1.Status.length k2)), (6, I x1604), (7, I (w64 ((a1.Status.length : Int) - x1604))), (9, B false), (10, I 0)] [] (by kernel_rfl) trivial (fin_next ?_)
            refine rn_block ?_
            refine rn_loop (V := Bool × Int) (J := fun k v => ref10_Encode.l4108 (ref10_Encode.l3186 a1 k3186) a1 x1604 x1605 k v.1 v.2 = some r) (sv := fun v => ⟨[b4, b10], [(1, .p 0 0), (4, .p 1 0), (5, .v (.slice A2 a1.Status.length k2)), (6, I x1604), (7, I (w64 ((a1.Status.length : Int) - x1604))), (9, B v.1), (10, I v.2)], [.a (R_ref06_Writer b10 x1605), .c 0 [U .u32 a1.Sender, U .u32 a1.Media, I a1.First, I a1.Base, I a1.Count, .v (.slice A2 a1.Status.length k2), .v (.slice A3 a1.Deltas.length k3)] 43]⟩) FUEL (false, 0) hres (fun a w hs => hs.conv [0, 0] (by kernel_rfl) (by kernel_rfl) ⟨[], by kernel_rfl⟩) ?_
            rintro k4108 ⟨x3801, x3802⟩ hres
            rcases k4108 with _ | k4108
            · rw [ref10_Encode.l4108] at hres; cases hres
            · rw [ref10_Encode.l4108] at hres
              refine rn_join (V := Unit) (J := fun v => ref10_Encode.j4413 (ref10_Encode.l4108 (ref10_Encode.l3186 a1 k3186) a1 x1604 x1605 k4108) a1 x1604 x3801 x3802 = some r) (sv := fun v => ⟨[b4, b10], [(1, .p 0 0), (4, .p 1 0), (5, .v (.slice A2 a1.Status.length k2)), (6, I x1604), (7, I (w64 ((a1.Status.length : Int) - x1604))), (9, B x3801), (10, I x3802)], [.a (R_ref06_Writer b10 x1605), .c 0 [U .u32 a1.Sender, U .u32 a1.Media, I a1.First, I a1.Base, I a1.Count, .v (.slice A2 a1.Status.length k2), .v (.slice A3 a1.Deltas.length k3)] 43]⟩) ?_ ?_
              · refine rn_seq ?_
                refine rn_text ?_
                refine ro_q 3 [] [1, 4, 5, 6, 7, 9, 10, 87] [(1, .p 0 0), (4, .p 1 0), (5, .v (.slice A2 a1.Status.length k2)), (6, I x1604), (7, I (w64 ((a1.Status.length : Int) - x1604))), (9, B x3801), (10, I x3802), (87, B (decide (x3802 < 14)))] [] (by kernel_rfl) trivial ?_
                refine ro_split 87 (decide (x3802 < 14)) (by kernel_rfl) (fun c4109 => ?_) (fun c4109 => ?_)
                · rw [if_pos (of_decide_eq_true c4109)] at hres
                  refine ro_q 4 [] [1, 4, 5, 6, 7, 9, 10, 91] [(1, .p 0 0), (4, .p 1 0), (5, .v (.slice A2 a1.Status.length k2)), (6, I x1604), (7, I (w64 ((a1.Status.length : Int) - x1604))), (9, B x3801), (10, I x3802), (91, B (decide (x3802 < (w64 ((a1.Status.length : Int) - x1604)))))] [] (by kernel_rfl) trivial ?_
                  refine ro_end (by kernel_rfl) (fin_next ?_)
                  refine rn_cond (decide (x3802 < (w64 ((a1.Status.length : Int) - x1604)))) (by kernel_rfl) (fun c4110 => ?_) (fun c4110 => ?_)
                  · rw [if_pos (of_decide_eq_true c4110)] at hres
                    refine rn_skip (fin_then ?_)
                    refine fin_join () hres [0, 0] [] (by kernel_rfl) (by kernel_rfl) (by kernel_rfl)
                  · rw [if_neg (of_decide_eq_false c4110)] at hres
                    refine rn_exit (fin_then_exit (fin_then_exit (fin_block_exit (fin_then ?_))))
                    refine fin_join x3801 hres [0, 0] [] (by kernel_rfl) (by kernel_rfl) (by kernel_rfl)
                · rw [if_neg (of_decide_eq_false c4109)] at hres
                  refine ro_q 4 [] [1, 4, 5, 6, 7, 9, 10, 91] [(1, .p 0 0), (4, .p 1 0), (5, .v (.slice A2 a1.Status.length k2)), (6, I x1604), (7, I (w64 ((a1.Status.length : Int) - x1604))), (9, B x3801), (10, I x3802), (91, B false)] [] (by kernel_rfl) trivial ?_
                  refine ro_end (by kernel_rfl) (fin_next ?_)
                  refine rn_cond_f (by kernel_rfl) ?_
                  refine rn_exit (fin_then_exit (fin_then_exit (fin_block_exit (fin_then ?_))))
                  refine fin_join x3801 hres [0, 0] [] (by kernel_rfl) (by kernel_rfl) (by kernel_rfl)
              · rintro ⟨⟩ hres
                unfold ref10_Encode.j4413 at hres
                refine rn_seq ?_
                refine rn_block ?_
                refine rn_text ?_
                refine ro_q 2 [] [1, 4, 5, 6, 7, 10, 95] [(1, .p 0 0), (4, .p 1 0), (5, .v (.slice A2 a1.Status.length k2)), (6, I x1604), (7, I (w64 ((a1.Status.length : Int) - x1604))), (10, I x3802), (95, B x3801)] [] (by kernel_rfl) trivial ?_
                refine ro_split 95 (x3801) (by kernel_rfl) (fun c4411 => ?_) (fun c4411 => ?_)
                · rw [if_pos (c4411)] at hres
                  refine ro_q 9 [] [1, 4, 5, 6, 7, 9, 10] [(1, .p 0 0), (4, .p 1 0), (5, .v (.slice A2 a1.Status.length k2)), (6, I x1604), (7, I (w64 ((a1.Status.length : Int) - x1604))), (9, B true), (10, I x3802)] [] (by kernel_rfl) trivial ?_
                  refine ro_end (by kernel_rfl) (fin_block (fin_next ?_))
                  refine rn_q [] [1, 4, 5, 6, 7, 9, 10] [(1, .p 0 0), (4, .p 1 0), (5, .v (.slice A2 a1.Status.length k2)), (6, I x1604), (7, I (w64 ((a1.Status.length : Int) - x1604))), (9, B true), (10, I (w64 (x3802 + 1)))] [] (by kernel_rfl) trivial (fin_then ?_)
                  refine fin_loop (true, w64 (x3802 + 1)) hres [0, 0] [] (by kernel_rfl) (by kernel_rfl) (by kernel_rfl)
                · rw [if_neg (nt_of_f c4411)] at hres
                  refine bind_elim hres fun y4412 hy4412 hres => ?_
                  refine ro_q 9 [(6, .v (elP A2 ((w64 (x1604 + x3802)).toNat * 1 + 0))), (7, I y4412)] [1, 4, 5, 6, 7, 9, 10] [(1, .p 0 0), (4, .p 1 0), (5, .v (.slice A2 a1.Status.length k2)), (6, I x1604), (7, I (w64 ((a1.Status.length : Int) - x1604))), (9, B (y4412 == 2)), (10, I x3802)] [(smIa 31 (.slice A2 a1.Status.length k2) (.int .i64 (w64 (x1604 + x3802))), elP A2 ((w64 (x1604 + x3802)).toNat * 1 + 0)), (smLd 3 (elP A2 ((w64 (x1604 + x3802)).toNat * 1 + 0)), .int .i64 y4412)] (by kernel_rfl) ⟨ob_ia (E := (eI .i64)) (U := 3) (i := (w64 (x1604 + x3802))) (sz := 1) (by kernel_rfl) (by kernel_rfl) (by kernel_rfl) hA2.app hy4412, ⟨ob_ld1 (E := (eI .i64)) (i := (w64 (x1604 + x3802))) (sz := 1) (o := 0) (d := (.int .i64)) (by kernel_rfl) (by kernel_rfl) (by kernel_rfl) (by kernel_rfl) hA2.app hy4412, trivial⟩⟩ ?_
                  refine ro_end (by kernel_rfl) (fin_block (fin_next ?_))
                  refine rn_q [] [1, 4, 5, 6, 7, 9, 10] [(1, .p 0 0), (4, .p 1 0), (5, .v (.slice A2 a1.Status.length k2)), (6, I x1604), (7, I (w64 ((a1.Status.length : Int) - x1604))), (9, B (y4412 == 2)), (10, I (w64 (x3802 + 1)))] [] (by kernel_rfl) trivial (fin_then ?_)
                  refine fin_loop (y4412 == 2, w64 (x3802 + 1)) hres [0, 0] [] (by kernel_rfl) (by kernel_rfl) (by kernel_rfl)
          · rintro j4714 hres
            unfold ref10_Encode.j4726 at hres
            refine rn_seq ?_
            refine rn_seq ?_
            refine rn_q [] [1, 4, 5, 6, 7, 105] [(1, .p 0 0), (4, .p 1 0), (5, .v (.slice A2 a1.Status.length k2)), (6, I x1604), (7, I (w64 ((a1.Status.length : Int) - x1604))), (105, B (!j4714))] [] (by kernel_rfl) trivial (fin_next ?_)
            refine rn_cond (!j4714) (by kernel_rfl) (fun c4715 => ?_) (fun c4715 => ?_)
            · rw [if_neg (nt_of_f (nb_t c4715))] at hres
              refine rn_seq ?_
              refine rn_text ?_
              refine ro_q 1 [] [1, 4, 5, 6, 7, 106] [(1, .p 0 0), (4, .p 1 0), (5, .v (.slice A2 a1.Status.length k2)), (6, I x1604), (7, I (w64 ((a1.Status.length : Int) - x1604))), (106, .p 1 0)] [] (by kernel_rfl) trivial ?_
              refine bind_elim hres fun y4717 hy4717 hres => ?_
              refine ro_op (by kernel_rfl) (op_call (f := 17) (xs := #[(.tmp 106), (.const (.int .u32 2)), (.const (.int .i64 2))]) (ats := #[63, 41, 3]) (d := (some 107)) (args := #[.pointer (some ⟨b10, 0, none⟩), .int .u32 2, .int .i64 2]) (by kernel_rfl) (by kernel_rfl) (by kernel_rfl) (by kernel_rfl) fun w hw => (ref06_Writer_Put_ok (F := [cellsA b4 [.int .u32 a1.Sender, .int .u32 a1.Media, .int .i64 a1.First, .int .i64 a1.Base, .int .i64 a1.Count, .slice A2 a1.Status.length k2, .slice A3 a1.Deltas.length k3] 43] ++ F) hy4717 (hw.sel [0] (by kernel_rfl : _ = [R_ref06_Writer b10 x1605] ++ ([cellsA b4 [.int .u32 a1.Sender, .int .u32 a1.Media, .int .i64 a1.First, .int .i64 a1.Base, .int .i64 a1.Count, .slice A2 a1.Status.length k2, .slice A3 a1.Deltas.length k3] 43] ++ F)))).mono ?_)
              rintro _ w1 ⟨rfl, hw1⟩
              refine ⟨_, [b4, b10], [.a (R_ref06_Writer b10 y4717), .c 0 [U .u32 a1.Sender, U .u32 a1.Media, I a1.First, I a1.Base, I a1.Count, .v (.slice A2 a1.Status.length k2), .v (.slice A3 a1.Deltas.length k3)] 43], _, rfl, hw1.eq (by kernel_rfl), rfl, mt_same, ro_fin ?_⟩
              refine ro_end (by kernel_rfl) (fin_next ?_)
              refine rn_seq ?_
              refine bind_elim hres fun y4718 hy4718 hres => ?_
              refine rn_text ?_
              refine ro_q 4 [(3, .v (.slice (slp A2 k2 x1604 1) y4718.length (k2 - x1604.toNat)))] [1, 4, 5, 6, 7, 108, 111] [(1, .p 0 0), (4, .p 1 0), (5, .v (.slice A2 a1.Status.length k2)), (6, I x1604), (7, I (w64 ((a1.Status.length : Int) - x1604))), (108, .p 1 0), (111, .v (.slice (slp A2 k2 x1604 1) y4718.length (k2 - x1604.toNat)))] [(smSl 31 (.slice A2 a1.Status.length k2) (some (.int .i64 x1604)) none none, .slice (slp A2 k2 x1604 1) y4718.length (k2 - x1604.toNat))] (by kernel_rfl) ⟨ob_lsl (E := (eI .i64)) (U := 3) (sz := 1) (some (.int .i64 x1604)) none (by kernel_rfl) (by kernel_rfl) hA2.app hy4718 (.inl ⟨_, rfl⟩) (.inr ⟨rfl, rfl⟩), trivial⟩ ?_
              refine bind_elim hres fun y4720 hy4720 hres => ?_
              refine ro_op (by kernel_rfl) (op_call (f := 19) (xs := #[(.tmp 108), (.tmp 111), (.const (.int .i64 14)), (.const (.int .i64 1))]) (ats := #[63, 31, 3, 3]) (d := (some 112)) (args := #[.pointer (some ⟨b10, 0, none⟩), .slice (slp A2 k2 x1604 1) y4718.length (k2 - x1604.toNat), .int .i64 14, .int .i64 1]) (by kernel_rfl) (by kernel_rfl) (by kernel_rfl) (by kernel_rfl) fun w hw => (ref10_row_ok (F := [cellsA b4 [.int .u32 a1.Sender, .int .u32 a1.Media, .int .i64 a1.First, .int .i64 a1.Base, .int .i64 a1.Count, .slice A2 a1.Status.length k2, .slice A3 a1.Deltas.length k3] 43] ++ F) hy4720 (RowT.lsl hA2.app hy4718 (by kernel_rfl)) (hw.sel [0] (by kernel_rfl : _ = [R_ref06_Writer b10 y4717] ++ ([cellsA b4 [.int .u32 a1.Sender, .int .u32 a1.Media, .int .i64 a1.First, .int .i64 a1.Base, .int .i64 a1.Count, .slice A2 a1.Status.length k2, .slice A3 a1.Deltas.length k3] 43] ++ F)))).mono ?_)
              rintro _ w1 ⟨rfl, hw1⟩
              refine ⟨_, [b4, b10], [.a (R_ref06_Writer b10 y4720), .c 0 [U .u32 a1.Sender, U .u32 a1.Media, I a1.First, I a1.Base, I a1.Count, .v (.slice A2 a1.Status.length k2), .v (.slice A3 a1.Deltas.length k3)] 43], _, rfl, hw1.eq (by kernel_rfl), rfl, mt_same, ro_fin ?_⟩
              refine ro_end (by kernel_rfl) (fin_next ?_)
              refine rn_seq ?_
              refine rn_q [] [1, 4, 5, 6] [(1, .p 0 0), (4, .p 1 0), (5, .v (.slice A2 a1.Status.length k2)), (6, I (w64 (x1604 + (mn 14 (w64 ((a1.Status.length : Int) - x1604))))))] [] (by kernel_rfl) trivial (fin_next ?_)
              refine rn_exit (fin_then_exit (fin_block_exit (fin_then ?_)))
              refine fin_loop (w64 (x1604 + (mn 14 (w64 ((a1.Status.length : Int) - x1604)))), y4720) hres [0, 0] [] (by kernel_rfl) (by kernel_rfl) (by kernel_rfl)
            · rw [if_pos ((nb_f c4715))] at hres
              refine rn_skip (fin_next ?_)
              refine rn_seq ?_
              refine rn_text ?_
              refine ro_q 1 [] [1, 4, 5, 6, 7, 117] [(1, .p 0 0), (4, .p 1 0), (5, .v (.slice A2 a1.Status.length k2)), (6, I x1604), (7, I (w64 ((a1.Status.length : Int) - x1604))), (117, .p 1 0)] [] (by kernel_rfl) trivial ?_
              refine bind_elim hres fun y4722 hy4722 hres => ?_
              refine ro_op (by kernel_rfl) (op_call (f := 17) (xs := #[(.tmp 117), (.const (.int .u32 3)), (.const (.int .i64 2))]) (ats := #[63, 41, 3]) (d := (some 118)) (args := #[.pointer (some ⟨b10, 0, none⟩), .int .u32 3, .int .i64 2]) (by kernel_rfl) (by kernel_rfl) (by kernel_rfl) (by kernel_rfl) fun w hw => (ref06_Writer_Put_ok (F := [cellsA b4 [.int .u32 a1.Sender, .int .u32 a1.Media, .int .i64 a1.First, .int .i64 a1.Base, .int .i64 a1.Count, .slice A2 a1.Status.length k2, .slice A3 a1.Deltas.length k3] 43] ++ F) hy4722 (hw.sel [0] (by kernel_rfl : _ = [R_ref06_Writer b10 x1605] ++ ([cellsA b4 [.int .u32 a1.Sender, .int .u32 a1.Media, .int .i64 a1.First, .int .i64 a1.Base, .int .i64 a1.Count, .slice A2 a1.Status.length k2, .slice A3 a1.Deltas.length k3] 43] ++ F)))).mono ?_)
              rintro _ w1 ⟨rfl, hw1⟩
              refine ⟨_, [b4, b10], [.a (R_ref06_Writer b10 y4722), .c 0 [U .u32 a1.Sender, U .u32 a1.Media, I a1.First, I a1.Base, I a1.Count, .v (.slice A2 a1.Status.length k2), .v (.slice A3 a1.Deltas.length k3)] 43], _, rfl, hw1.eq (by kernel_rfl), rfl, mt_same, ro_fin ?_⟩
              refine ro_end (by kernel_rfl) (fin_next ?_)
              refine rn_seq ?_
              refine bind_elim hres fun y4723 hy4723 hres => ?_
              refine rn_text ?_
              refine ro_q 4 [(3, .v (.slice (slp A2 k2 x1604 1) y4723.length (k2 - x1604.toNat)))] [1, 4, 5, 6, 7, 119, 122] [(1, .p 0 0), (4, .p 1 0), (5, .v (.slice A2 a1.Status.length k2)), (6, I x1604), (7, I (w64 ((a1.Status.length : Int) - x1604))), (119, .p 1 0), (122, .v (.slice (slp A2 k2 x1604 1) y4723.length (k2 - x1604.toNat)))] [(smSl 31 (.slice A2 a1.Status.length k2) (some (.int .i64 x1604)) none none, .slice (slp A2 k2 x1604 1) y4723.length (k2 - x1604.toNat))] (by kernel_rfl) ⟨ob_lsl (E := (eI .i64)) (U := 3) (sz := 1) (some (.int .i64 x1604)) none (by kernel_rfl) (by kernel_rfl) hA2.app hy4723 (.inl ⟨_, rfl⟩) (.inr ⟨rfl, rfl⟩), trivial⟩ ?_
              refine bind_elim hres fun y4725 hy4725 hres => ?_
              refine ro_op (by kernel_rfl) (op_call (f := 19) (xs := #[(.tmp 119), (.tmp 122), (.const (.int .i64 7)), (.const (.int .i64 2))]) (ats := #[63, 31, 3, 3]) (d := (some 123)) (args := #[.pointer (some ⟨b10, 0, none⟩), .slice (slp A2 k2 x1604 1) y4723.length (k2 - x1604.toNat), .int .i64 7, .int .i64 2]) (by kernel_rfl) (by kernel_rfl) (by kernel_rfl) (by kernel_rfl) fun w hw => (ref10_row_ok (F := [cellsA b4 [.int .u32 a1.Sender, .int .u32 a1.Media, .int .i64 a1.First, .int .i64 a1.Base, .int .i64 a1.Count, .slice A2 a1.Status.length k2, .slice A3 a1.Deltas.length k3] 43] ++ F) hy4725 (RowT.lsl hA2.app hy4723 (by kernel_rfl)) (hw.sel [0] (by kernel_rfl : _ = [R_ref06_Writer b10 y4722] ++ ([cellsA b4 [.int .u32 a1.Sender, .int .u32 a1.Media, .int .i64 a1.First, .int .i64 a1.Base, .int .i64 a1.Count, .slice A2 a1.Status.length k2, .slice A3 a1.Deltas.length k3] 43] ++ F)))).mono ?_)
              rintro _ w1 ⟨rfl, hw1⟩
              refine ⟨_, [b4, b10], [.a (R_ref06_Writer b10 y4725), .c 0 [U .u32 a1.Sender, U .u32 a1.Media, I a1.First, I a1.Base, I a1.Count, .v (.slice A2 a1.Status.length k2), .v (.slice A3 a1.Deltas.length k3)] 43], _, rfl, hw1.eq (by kernel_rfl), rfl, mt_same, ro_fin ?_⟩
              refine ro_end (by kernel_rfl) (fin_next ?_)
              refine rn_q [] [1, 4, 5, 6] [(1, .p 0 0), (4, .p 1 0), (5, .v (.slice A2 a1.Status.length k2)), (6, I (w64 (x1604 + (mn 7 (w64 ((a1.Status.length : Int) - x1604))))))] [] (by kernel_rfl) trivial (fin_block (fin_then ?_))
              refine fin_loop (w64 (x1604 + (mn 7 (w64 ((a1.Status.length : Int) - x1604)))), y4725) hres [0, 0] [] (by kernel_rfl) (by kernel_rfl) (by kernel_rfl)
      · rw [if_neg (of_decide_eq_false c3187)] at hres
        refine rn_exit (fin_then_exit (fin_then_exit (fin_block_exit (fin_next ?_))))
        refine rn_seq ?_
        refine rn_q [] [1, 4, 5, 11] [(1, .p 0 0), (4, .p 1 0), (5, .v (.slice A2 a1.Status.length k2)), (11, I 0)] [] (by kernel_rfl) trivial (fin_next ?_)
        refine rn_seq ?_
        refine rn_seq ?_
        refine rn_q [] [1, 4, 5, 11, 12] [(1, .p 0 0), (4, .p 1 0), (5, .v (.slice A2 a1.Status.length k2)), (11, I 0), (12, I 0)] [] (by kernel_rfl) trivial (fin_next ?_)
        refine rn_block ?_
        refine rn_loop (V := Int × Int × S_ref06_Writer) (J := fun k v => ref10_Encode.l4755 a1 k v.1 v.2.1 v.2.2 = some r) (sv := fun v => ⟨[b4, b10], [(1, .p 0 0), (4, .p 1 0), (5, .v (.slice A2 a1.Status.length k2)), (11, I v.1), (12, I v.2.1)], [.a (R_ref06_Writer b10 v.2.2), .c 0 [U .u32 a1.Sender, U .u32 a1.Media, I a1.First, I a1.Base, I a1.Count, .v (.slice A2 a1.Status.length k2), .v (.slice A3 a1.Deltas.length k3)] 43]⟩) FUEL (0, 0, x1605) hres (fun a w hs => hs.conv [0, 0] (by kernel_rfl) (by kernel_rfl) ⟨[], by kernel_rfl⟩) ?_
        rintro k4755 ⟨x4741, x4742, x4743⟩ hres
        rcases k4755 with _ | k4755
        · rw [ref10_Encode.l4755] at hres; cases hres
        · rw [ref10_Encode.l4755] at hres
          refine rn_seq ?_
          refine rn_seq ?_
          refine rn_q [] [1, 4, 5, 11, 12, 131] [(1, .p 0 0), (4, .p 1 0), (5, .v (.slice A2 a1.Status.length k2)), (11, I x4741), (12, I x4742), (131, B (decide (x4742 < (a1.Status.length : Int))))] [] (by kernel_rfl) trivial (fin_next ?_)
          refine rn_cond (decide (x4742 < (a1.Status.length : Int))) (by kernel_rfl) (fun c4756 => ?_) (fun c4756 => ?_)
          · rw [if_pos (of_decide_eq_true c4756)] at hres
            refine rn_skip (fin_next ?_)
            refine rn_seq ?_
            refine rn_block ?_
            refine rn_seq ?_
            refine bind_elim hres fun y4757 hy4757 hres => ?_
            refine rn_q [(2, .v (elP A2 (x4742.toNat * 1 + 0))), (3, I y4757)] [1, 4, 5, 11, 12, 138] [(1, .p 0 0), (4, .p 1 0), (5, .v (.slice A2 a1.Status.length k2)), (11, I x4741), (12, I x4742), (138, B (decide (0 < y4757)))] [(smIa 31 (.slice A2 a1.Status.length k2) (.int .i64 x4742), elP A2 (x4742.toNat * 1 + 0)), (smLd 3 (elP A2 (x4742.toNat * 1 + 0)), .int .i64 y4757)] (by kernel_rfl) ⟨ob_ia (E := (eI .i64)) (U := 3) (i := x4742) (sz := 1) (by kernel_rfl) (by kernel_rfl) (by kernel_rfl) hA2.app hy4757, ⟨ob_ld1 (E := (eI .i64)) (i := x4742) (sz := 1) (o := 0) (d := (.int .i64)) (by kernel_rfl) (by kernel_rfl) (by kernel_rfl) (by kernel_rfl) hA2.app hy4757, trivial⟩⟩ (fin_next ?_)
            refine rn_cond (decide (0 < y4757)) (by kernel_rfl) (fun c4758 => ?_) (fun c4758 => ?_)
            · rw [if_pos (of_decide_eq_true c4758)] at hres
              refine rn_seq ?_
              refine bind_elim hres fun y4759 hy4759 hres => ?_
              refine bind_elim hres fun y4760 hy4760 hres => ?_
              refine bind_elim hres fun y4762 hy4762 hres => ?_
              refine rn_held (hden [b4, b10] [.c 0 [U .u32 a1.Sender, U .u32 a1.Media, I a1.First, I a1.Base, I a1.Count, .v (.slice A2 a1.Status.length k2), .v (.slice A3 a1.Deltas.length k3)] 43] ++ F) (by kernel_rfl) ?_
              refine rh_q [.c 0 [U .u32 a1.Sender, U .u32 a1.Media, I a1.First, I a1.Base, I a1.Count, .v (.slice A2 a1.Status.length k2), .v (.slice A3 a1.Deltas.length k3)] 43] 1 [0, 1, 2, 3, 4, 5, 6, 7, 8, 9, 10, 11] [(4, .v (elP A3 (x4741.toNat * 1 + 0))), (5, I y4759), (9, .v (elP A2 (x4742.toNat * 1 + 0))), (10, I y4760)] [1, 4, 5, 11, 12, 139, 145, 150] [(1, .p 0 0), (4, .p 1 0), (5, .v (.slice A2 a1.Status.length k2)), (11, I x4741), (12, I x4742), (139, .p 1 0), (145, U .u32 (IntKind.wrap .u32 (y4759))), (150, I (w64 (8 * y4760)))] [true, true, true, true, true, true, true, true, true, true, true, true, false] [(smIa 31 (.slice A3 a1.Deltas.length k3) (.int .i64 x4741), elP A3 (x4741.toNat * 1 + 0)), (smLd 3 (elP A3 (x4741.toNat * 1 + 0)), .int .i64 y4759), (smIa 31 (.slice A2 a1.Status.length k2) (.int .i64 x4742), elP A2 (x4742.toNat * 1 + 0)), (smLd 3 (elP A2 (x4742.toNat * 1 + 0)), .int .i64 y4760)] rfl (by kernel_rfl) rfl [1] [R_ref06_Writer b10 x4743] (by kernel_rfl) (by kernel_rfl) ⟨ob_ia (E := (eI .i64)) (U := 3) (i := x4741) (sz := 1) (by kernel_rfl) (by kernel_rfl) (by kernel_rfl) hA3.app hy4759, ⟨ob_ld1 (E := (eI .i64)) (i := x4741) (sz := 1) (o := 0) (d := (.int .i64)) (by kernel_rfl) (by kernel_rfl) (by kernel_rfl) (by kernel_rfl) hA3.app hy4759, ⟨ob_ia (E := (eI .i64)) (U := 3) (i := x4742) (sz := 1) (by kernel_rfl) (by kernel_rfl) (by kernel_rfl) hA2.app hy4760, ⟨ob_ld1 (E := (eI .i64)) (i := x4742) (sz := 1) (o := 0) (d := (.int .i64)) (by kernel_rfl) (by kernel_rfl) (by kernel_rfl) (by kernel_rfl) hA2.app hy4760, trivial⟩⟩⟩⟩ ?_
              refine rh_1 12 (by kernel_rfl) ?_
              refine op_call (f := 17) (xs := #[(.tmp 139), (.tmp 145), (.tmp 150)]) (ats := #[63, 41, 3]) (d := (some 151)) (args := #[.pointer (some ⟨b10, 0, none⟩), .int .u32 (IntKind.wrap .u32 (y4759)), .int .i64 (w64 (8 * y4760))]) (by kernel_rfl) (by kernel_rfl) (by kernel_rfl) (by kernel_rfl) fun w hw => (ref06_Writer_Put_ok (F := [cellsA b4 [.int .u32 a1.Sender, .int .u32 a1.Media, .int .i64 a1.First, .int .i64 a1.Base, .int .i64 a1.Count, .slice A2 a1.Status.length k2, .slice A3 a1.Deltas.length k3] 43] ++ F) hy4762 (hw.sel [0] (by kernel_rfl : _ = [R_ref06_Writer b10 x4743] ++ ([cellsA b4 [.int .u32 a1.Sender, .int .u32 a1.Media, .int .i64 a1.First, .int .i64 a1.Base, .int .i64 a1.Count, .slice A2 a1.Status.length k2, .slice A3 a1.Deltas.length k3] 43] ++ F)))).mono ?_
              rintro _ w1 ⟨rfl, hw1⟩
              refine ⟨_, [b4, b10], [.a (R_ref06_Writer b10 y4762), .c 0 [U .u32 a1.Sender, U .u32 a1.Media, I a1.First, I a1.Base, I a1.Count, .v (.slice A2 a1.Status.length k2), .v (.slice A3 a1.Deltas.length k3)] 43], _, rfl, hw1.eq (by kernel_rfl), rfl, mt_same, fin_held [.c 0 [U .u32 a1.Sender, U .u32 a1.Media, I a1.First, I a1.Base, I a1.Count, .v (.slice A2 a1.Status.length k2), .v (.slice A3 a1.Deltas.length k3)] 43] [true, true, true, true, true, true, true, true, true, true, true, true, true] (by kernel_rfl) rfl [1] [R_ref06_Writer b10 y4762] (by kernel_rfl) ?_⟩
              refine rh_end (by kernel_rfl) (fin_next ?_)
              refine rn_q [] [1, 4, 5, 11, 12] [(1, .p 0 0), (4, .p 1 0), (5, .v (.slice A2 a1.Status.length k2)), (11, I (w64 (x4741 + 1))), (12, I x4742)] [] (by kernel_rfl) trivial (fin_block (fin_next ?_))
              refine rn_q [] [1, 4, 5, 11, 12] [(1, .p 0 0), (4, .p 1 0), (5, .v (.slice A2 a1.Status.length k2)), (11, I (w64 (x4741 + 1))), (12, I (w64 (x4742 + 1)))] [] (by kernel_rfl) trivial (fin_then ?_)
              refine fin_loop (w64 (x4741 + 1), w64 (x4742 + 1), y4762) hres [0, 0] [] (by kernel_rfl) (by kernel_rfl) (by kernel_rfl)
            · rw [if_neg (of_decide_eq_false c4758)] at hres
              refine rn_skip (fin_block (fin_next ?_))
              refine rn_q [] [1, 4, 5, 11, 12] [(1, .p 0 0), (4, .p 1 0), (5, .v (.slice A2 a1.Status.length k2)), (11, I x4741), (12, I (w64 (x4742 + 1)))] [] (by kernel_rfl) trivial (fin_then ?_)
              refine fin_loop (x4741, w64 (x4742 + 1), x4743) hres [0, 0] [] (by kernel_rfl) (by kernel_rfl) (by kernel_rfl)
          · rw [if_neg (of_decide_eq_false c4756)] at hres
            refine rn_exit (fin_then_exit (fin_then_exit (fin_block_exit (fin_next ?_))))
            refine rn_seq ?_
            refine rn_text ?_
            refine ro_q 1 [] [4, 154] [(4, .p 1 0), (154, .p 1 0)] [] (by kernel_rfl) trivial ?_
            refine bind_elim hres fun y4764 hy4764 hres => ?_
            refine ro_op (by kernel_rfl) (op_call (f := 20) (xs := #[(.tmp 154), (.const (.int .i64 32))]) (ats := #[63, 3]) (d := (some 155)) (args := #[.pointer (some ⟨b10, 0, none⟩), .int .i64 32]) (by kernel_rfl) (by kernel_rfl) (by kernel_rfl) (by kernel_rfl) fun w hw => (ref06_Writer_Align_ok (F := [cellsA b4 [.int .u32 a1.Sender, .int .u32 a1.Media, .int .i64 a1.First, .int .i64 a1.Base, .int .i64 a1.Count, .slice A2 a1.Status.length k2, .slice A3 a1.Deltas.length k3] 43] ++ F) hy4764 (hw.sel [0] (by kernel_rfl : _ = [R_ref06_Writer b10 x4743] ++ ([cellsA b4 [.int .u32 a1.Sender, .int .u32 a1.Media, .int .i64 a1.First, .int .i64 a1.Base, .int .i64 a1.Count, .slice A2 a1.Status.length k2, .slice A3 a1.Deltas.length k3] 43] ++ F)))).mono ?_)
            rintro _ w1 ⟨rfl, hw1⟩
            refine ⟨_, [b4, b10], [.a (R_ref06_Writer b10 y4764), .c 0 [U .u32 a1.Sender, U .u32 a1.Media, I a1.First, I a1.Base, I a1.Count, .v (.slice A2 a1.Status.length k2), .v (.slice A3 a1.Deltas.length k3)] 43], _, rfl, hw1.eq (by kernel_rfl), rfl, mt_same, ro_fin ?_⟩
            refine ro_end (by kernel_rfl) (fin_next ?_)
            refine rn_seq ?_
            refine rn_text ?_
            refine ro_q 1 [] [156] [(156, .p 1 0)] [] (by kernel_rfl) trivial ?_
            refine bind_elim hres fun y4766 hy4766 hres => ?_
            refine ro_op (by kernel_rfl) (op_call (f := 21) (xs := #[(.tmp 156)]) (ats := #[63]) (d := (some 157)) (args := #[.pointer (some ⟨b10, 0, none⟩)]) (by kernel_rfl) (by kernel_rfl) (by kernel_rfl) (by kernel_rfl) fun w hw => (ref06_Writer_Text_ok (F := [cellsA b4 [.int .u32 a1.Sender, .int .u32 a1.Media, .int .i64 a1.First, .int .i64 a1.Base, .int .i64 a1.Count, .slice A2 a1.Status.length k2, .slice A3 a1.Deltas.length k3] 43] ++ F) hy4766 (hw.sel [0] (by kernel_rfl : _ = [R_ref06_Writer b10 y4764] ++ ([cellsA b4 [.int .u32 a1.Sender, .int .u32 a1.Media, .int .i64 a1.First, .int .i64 a1.Base, .int .i64 a1.Count, .slice A2 a1.Status.length k2, .slice A3 a1.Deltas.length k3] 43] ++ F)))).mono ?_)
            rintro _ w1 ⟨rfl, hw1⟩
            refine ⟨_, [b4, b10], [.a (R_ref06_Writer b10 y4764), .c 0 [U .u32 a1.Sender, U .u32 a1.Media, I a1.First, I a1.Base, I a1.Count, .v (.slice A2 a1.Status.length k2), .v (.slice A3 a1.Deltas.length k3)] 43], _, rfl, hw1.eq (by kernel_rfl), rfl, mt_same, ro_fin ?_⟩
            refine ro_q 2 [] [2, 3] [(2, S y4766), (3, I 0)] [] (by kernel_rfl) trivial ?_
            refine ro_end (by kernel_rfl) (fin_next ?_)
            refine rn_ret ?_
            refine fin_ret [.string y4766, .int .i64 0] (by kernel_rfl) fun w' hw' => ?_
            have hq := Option.some.inj hres
            subst hq
            exact ⟨rfl, hw'.drop⟩
/- 4 flywheel/flywheellaw12.wakes -/
def law12_wakes  : Option Bool :=
  (ref10_Encode (⟨0, 0, 5, 2, 0, [1, 0, 1], [4, 8]⟩ : S_api_Twcc)).bind fun y4 =>
  (ref08_Join [(⟨15, 205, y4.1⟩ : S_api_Part)]).bind fun y7 =>
  (feed_Read y7.1 128000).bind fun y9 =>
  (if y9.2 = 0 then (if (y9.1.Reports.length : Int) = 3 then (idx y9.1.Reports 0).bind fun y15 =>
  (if y15.At = 129000 then (idx y9.1.Reports 2).bind fun y17 =>
  (if y17.At = 131000 then (idx y9.1.Reports 1).bind fun y19 =>
  (if y19.Got = true then some false else (idx y9.1.Reports 2).bind fun y21 =>
  some (y21.Seq == 7)) else some false) else some false) else some false) else some false)
theorem law12_wakes_ok  {r : Bool} (hres : law12_wakes  = some r) {w0 w : World} {F : List Asn} (hw : SH w0 w (F)) :
    Calls Try.prog 4 #[] w fun e w' => e = .returned (.bool r) ∧ SH w0 w' (F) := by
  refine fw_enter (n := 66) (bs := []) (env := []) (H := []) (F := F) Try.func4 rfl (by kernel_rfl) (by kernel_rfl) (by kernel_rfl) (hw.eq (by kernel_rfl)) ?_
  unfold law12_wakes at hres
  refine rn_seq ?_
  refine rn_q [] [] [] [] (by kernel_rfl) trivial (fin_next ?_)
  refine rn_seq ?_
  refine rn_text ?_
  refine ro_op (by kernel_rfl) (op_bslice (E := (eI .i64)) 31 3 3 #[(0, (.const (.int .i64 1))), (1, (.const (.int .i64 0))), (2, (.const (.int .i64 1)))] 8 [1, 0, 1] (by kernel_rfl) (by kernel_rfl) (by kernel_rfl) rfl (by decide) (by kernel_rfl) (fun b1 => ro_fin ?_))
  refine ro_op (by kernel_rfl) (op_bslice (E := (eI .i64)) 31 3 2 #[(0, (.const (.int .i64 4))), (1, (.const (.int .i64 8)))] 9 [4, 8] (by kernel_rfl) (by kernel_rfl) (by kernel_rfl) rfl (by decide) (by kernel_rfl) (fun b2 => ro_fin ?_))
  refine ro_q 1 [] [10] [(10, .v (.agg #[.int .u32 0, .int .u32 0, .int .i64 5, .int .i64 2, .int .i64 0, .slice (some ⟨b1, 0, none⟩) 3 3, .slice (some ⟨b2, 0, none⟩) 2 2]))] [] (by kernel_rfl) trivial ?_
  refine bind_elim hres fun y4 hy4 hres => ?_
  refine ro_op (by kernel_rfl) (op_call (f := 10) (xs := #[(.tmp 10)]) (ats := #[43]) (d := (some 11)) (args := #[.agg #[.int .u32 0, .int .u32 0, .int .i64 5, .int .i64 2, .int .i64 0, .slice (some ⟨b1, 0, none⟩) 3 3, .slice (some ⟨b2, 0, none⟩) 2 2]]) (by kernel_rfl) (by kernel_rfl) (by kernel_rfl) (by kernel_rfl) fun w hw => (ref10_Encode_ok hy4 (row_at (U := 3) (E := (eI .i64)) (A := (some ⟨b1, 0, none⟩)) (c := 3) (L := [1, 0, 1]) 1 (by kernel_rfl)) (row_at (U := 3) (E := (eI .i64)) (A := (some ⟨b2, 0, none⟩)) (c := 2) (L := [4, 8]) 0 (by kernel_rfl)) hw).mono ?_)
  rintro _ w1 ⟨rfl, hw1⟩
  refine ⟨_, [], [.a (slA 3 (eI .i64) (some ⟨b2, 0, none⟩) 2 [4, 8]), .a (slA 3 (eI .i64) (some ⟨b1, 0, none⟩) 3 [1, 0, 1])], _, rfl, hw1.eq (by kernel_rfl), rfl, mt_same, ro_fin ?_⟩
  refine ro_q 5 [] [1] [(1, S y4.1)] [] (by kernel_rfl) trivial ?_
  refine ro_end (by kernel_rfl) (fin_next ?_)
  refine rn_seq ?_
  refine rn_text ?_
  refine ro_q 2 [] [16] [(16, .v (.agg #[.int .i64 15, .int .i64 205, .string y4.1]))] [] (by kernel_rfl) trivial ?_
  refine ro_op (by kernel_rfl) (op_bslice (E := e_api_Part) 23 27 1 #[(0, (.tmp 16))] 17 [(⟨15, 205, y4.1⟩ : S_api_Part)] (by kernel_rfl) (by kernel_rfl) (by kernel_rfl) rfl (by decide) (by kernel_rfl) (fun b5 => ro_fin ?_))
  refine bind_elim hres fun y7 hy7 hres => ?_
  refine ro_op (by kernel_rfl) (op_call (f := 6) (xs := #[(.tmp 17)]) (ats := #[23]) (d := (some 18)) (args := #[.slice (some ⟨b5, 0, none⟩) 1 1]) (by kernel_rfl) (by kernel_rfl) (by kernel_rfl) (by kernel_rfl) fun w hw => (ref08_Join_ok hy7 (row_at (U := 27) (E := e_api_Part) (A := (some ⟨b5, 0, none⟩)) (c := 1) (L := [(⟨15, 205, y4.1⟩ : S_api_Part)]) 0 (by kernel_rfl)) hw).mono ?_)
  rintro _ w1 ⟨rfl, hw1⟩
  refine ⟨_, [], [.a (slA 27 e_api_Part (some ⟨b5, 0, none⟩) 1 [(⟨15, 205, y4.1⟩ : S_api_Part)]), .a (slA 3 (eI .i64) (some ⟨b2, 0, none⟩) 2 [4, 8]), .a (slA 3 (eI .i64) (some ⟨b1, 0, none⟩) 3 [1, 0, 1])], _, rfl, hw1.eq (by kernel_rfl), rfl, mt_same, ro_fin ?_⟩
  refine ro_q 5 [] [3] [(3, S y7.1)] [] (by kernel_rfl) trivial ?_
  refine ro_end (by kernel_rfl) (fin_next ?_)
  refine rn_seq ?_
  refine rn_text ?_
  refine ro_q 1 [] [22] [(22, S y7.1)] [] (by kernel_rfl) trivial ?_
  refine bind_elim hres fun y9 hy9 hres => ?_
  refine ro_op (by kernel_rfl) (op_call (f := 7) (xs := #[(.tmp 22), (.const (.int .i64 128000))]) (ats := #[9, 2]) (d := (some 23)) (args := #[.string y7.1, .int .i64 128000]) (by kernel_rfl) (by kernel_rfl) (by kernel_rfl) (by kernel_rfl) fun w hw => (feed_Read_ok hy9 hw).mono ?_)
  rintro _ w1 ⟨A10, k10, A11, k11, rfl, hw1⟩
  refine ⟨_, [], [.a (slA 45 e_api_Report A10 k10 y9.1.Reports), .a (slA 3 (eI .i64) A11 k11 y9.1.Again), .a (slA 27 e_api_Part (some ⟨b5, 0, none⟩) 1 [(⟨15, 205, y4.1⟩ : S_api_Part)]), .a (slA 3 (eI .i64) (some ⟨b2, 0, none⟩) 2 [4, 8]), .a (slA 3 (eI .i64) (some ⟨b1, 0, none⟩) 3 [1, 0, 1])], _, rfl, hw1.eq (by kernel_rfl), rfl, mt_same, ro_fin ?_⟩
  refine ro_q 3 [] [24, 25] [(24, .v (.agg #[.slice A10 y9.1.Reports.length k10, .slice A11 y9.1.Again.length k11])), (25, I y9.2)] [] (by kernel_rfl) trivial ?_
  refine ro_op (by kernel_rfl) (op_alloc 33 5 (.agg #[.slice none 0 0, .slice none 0 0]) [.v (.slice none 0 0), .v (.slice none 0 0)] (fun b12 => [b12]) (fun b12 => [.c 0 [.v (.slice none 0 0), .v (.slice none 0 0)] 33, .a (slA 45 e_api_Report A10 k10 y9.1.Reports), .a (slA 3 (eI .i64) A11 k11 y9.1.Again), .a (slA 27 e_api_Part (some ⟨b5, 0, none⟩) 1 [(⟨15, 205, y4.1⟩ : S_api_Part)]), .a (slA 3 (eI .i64) (some ⟨b2, 0, none⟩) 2 [4, 8]), .a (slA 3 (eI .i64) (some ⟨b1, 0, none⟩) 3 [1, 0, 1])]) (by kernel_rfl) (by kernel_rfl) (by kernel_rfl) (by kernel_rfl) 0 (fun _ => by kernel_rfl) (fun _ => mt_bs (by kernel_rfl)) (fun _ => by kernel_rfl) (fun b12 => ro_fin ?_))
  refine ro_op (by kernel_rfl) (op_store 33 (.tmp 5) (.tmp 24) 0 0 (.v (.agg #[.slice A10 y9.1.Reports.length k10, .slice A11 y9.1.Again.length k11])) [.c 0 [.v (.slice A10 y9.1.Reports.length k10), .v (.slice A11 y9.1.Again.length k11)] 33, .a (slA 45 e_api_Report A10 k10 y9.1.Reports), .a (slA 3 (eI .i64) A11 k11 y9.1.Again), .a (slA 27 e_api_Part (some ⟨b5, 0, none⟩) 1 [(⟨15, 205, y4.1⟩ : S_api_Part)]), .a (slA 3 (eI .i64) (some ⟨b2, 0, none⟩) 2 [4, 8]), .a (slA 3 (eI .i64) (some ⟨b1, 0, none⟩) 3 [1, 0, 1])] (by kernel_rfl) (by kernel_rfl) (by kernel_rfl) (by kernel_rfl) (ro_fin ?_))
  refine ro_q 1 [] [5, 6] [(5, .p 0 0), (6, I y9.2)] [] (by kernel_rfl) trivial ?_
  refine ro_end (by kernel_rfl) (fin_next ?_)
  refine rn_seq ?_
  refine rn_text ?_
  refine ro_q 3 [] [5, 28] [(5, .p 0 0), (28, B (y9.2 == 0))] [] (by kernel_rfl) trivial ?_
  refine ro_split 28 (y9.2 == 0) (by kernel_rfl) (fun c13 => ?_) (fun c13 => ?_)
  · rw [if_pos (eq_t c13)] at hres
    refine ro_q 6 [] [5, 34] [(5, .p 0 0), (34, B ((y9.1.Reports.length : Int) == 3))] [] (by kernel_rfl) trivial ?_
    refine ro_split 34 ((y9.1.Reports.length : Int) == 3) (by kernel_rfl) (fun c14 => ?_) (fun c14 => ?_)
    · rw [if_pos (eq_t c14)] at hres
      refine bind_elim hres fun y15 hy15 hres => ?_
      refine ro_q 8 [(11, .v (elP A10 ((0 : Int).toNat * 5 + 0))), (12, .v (elP A10 ((0 : Int).toNat * 5 + 2))), (13, I y15.At)] [5, 42] [(5, .p 0 0), (42, B (y15.At == 129000))] [(smIa 30 (.slice A10 y9.1.Reports.length k10) (.int .i64 0), elP A10 ((0 : Int).toNat * 5 + 0)), (smFa 45 (elP A10 ((0 : Int).toNat * 5 + 0)) 2, elP A10 ((0 : Int).toNat * 5 + 2)), (smLd 2 (elP A10 ((0 : Int).toNat * 5 + 2)), .int .i64 y15.At)] (by kernel_rfl) ⟨ob_ia (E := e_api_Report) (U := 45) (i := (0 : Int)) (sz := 5) (by kernel_rfl) (by kernel_rfl) (by kernel_rfl) (row_at (U := 45) (E := e_api_Report) (A := A10) (c := k10) (L := y9.1.Reports) 1 (by kernel_rfl)) hy15, ⟨ob_fa (E := e_api_Report) (i := (0 : Int)) (sz := 5) (o := 0) (d := 2) (by kernel_rfl) (by kernel_rfl) (row_at (U := 45) (E := e_api_Report) (A := A10) (c := k10) (L := y9.1.Reports) 1 (by kernel_rfl)) hy15, ⟨ob_ld1 (E := e_api_Report) (i := (0 : Int)) (sz := 5) (o := 2) (d := (.int .i64)) (by kernel_rfl) (by kernel_rfl) (by kernel_rfl) (by kernel_rfl) (row_at (U := 45) (E := e_api_Report) (A := A10) (c := k10) (L := y9.1.Reports) 1 (by kernel_rfl)) hy15, trivial⟩⟩⟩ ?_
      refine ro_split 42 (y15.At == 129000) (by kernel_rfl) (fun c16 => ?_) (fun c16 => ?_)
      · rw [if_pos (eq_t c16)] at hres
        refine bind_elim hres fun y17 hy17 hres => ?_
        refine ro_q 8 [(19, .v (elP A10 ((2 : Int).toNat * 5 + 0))), (20, .v (elP A10 ((2 : Int).toNat * 5 + 2))), (21, I y17.At)] [5, 50] [(5, .p 0 0), (50, B (y17.At == 131000))] [(smIa 30 (.slice A10 y9.1.Reports.length k10) (.int .i64 2), elP A10 ((2 : Int).toNat * 5 + 0)), (smFa 45 (elP A10 ((2 : Int).toNat * 5 + 0)) 2, elP A10 ((2 : Int).toNat * 5 + 2)), (smLd 2 (elP A10 ((2 : Int).toNat * 5 + 2)), .int .i64 y17.At)] (by kernel_rfl) ⟨ob_ia (E := e_api_Report) (U := 45) (i := (2 : Int)) (sz := 5) (by kernel_rfl) (by kernel_rfl) (by kernel_rfl) (row_at (U := 45) (E := e_api_Report) (A := A10) (c := k10) (L := y9.1.Reports) 1 (by kernel_rfl)) hy17, ⟨ob_fa (E := e_api_Report) (i := (2 : Int)) (sz := 5) (o := 0) (d := 2) (by kernel_rfl) (by kernel_rfl) (row_at (U := 45) (E := e_api_Report) (A := A10) (c := k10) (L := y9.1.Reports) 1 (by kernel_rfl)) hy17, ⟨ob_ld1 (E := e_api_Report) (i := (2 : Int)) (sz := 5) (o := 2) (d := (.int .i64)) (by kernel_rfl) (by kernel_rfl) (by kernel_rfl) (by kernel_rfl) (row_at (U := 45) (E := e_api_Report) (A := A10) (c := k10) (L := y9.1.Reports) 1 (by kernel_rfl)) hy17, trivial⟩⟩⟩ ?_
        refine ro_split 50 (y17.At == 131000) (by kernel_rfl) (fun c18 => ?_) (fun c18 => ?_)
        · rw [if_pos (eq_t c18)] at hres
          refine bind_elim hres fun y19 hy19 hres => ?_
          refine ro_q 8 [(27, .v (elP A10 ((1 : Int).toNat * 5 + 0))), (28, .v (elP A10 ((1 : Int).toNat * 5 + 1))), (29, B y19.Got)] [5, 58] [(5, .p 0 0), (58, B (!y19.Got))] [(smIa 30 (.slice A10 y9.1.Reports.length k10) (.int .i64 1), elP A10 ((1 : Int).toNat * 5 + 0)), (smFa 45 (elP A10 ((1 : Int).toNat * 5 + 0)) 1, elP A10 ((1 : Int).toNat * 5 + 1)), (smLd 4 (elP A10 ((1 : Int).toNat * 5 + 1)), .bool y19.Got)] (by kernel_rfl) ⟨ob_ia (E := e_api_Report) (U := 45) (i := (1 : Int)) (sz := 5) (by kernel_rfl) (by kernel_rfl) (by kernel_rfl) (row_at (U := 45) (E := e_api_Report) (A := A10) (c := k10) (L := y9.1.Reports) 1 (by kernel_rfl)) hy19, ⟨ob_fa (E := e_api_Report) (i := (1 : Int)) (sz := 5) (o := 0) (d := 1) (by kernel_rfl) (by kernel_rfl) (row_at (U := 45) (E := e_api_Report) (A := A10) (c := k10) (L := y9.1.Reports) 1 (by kernel_rfl)) hy19, ⟨ob_ld1 (E := e_api_Report) (i := (1 : Int)) (sz := 5) (o := 1) (d := .bool) (by kernel_rfl) (by kernel_rfl) (by kernel_rfl) (by kernel_rfl) (row_at (U := 45) (E := e_api_Report) (A := A10) (c := k10) (L := y9.1.Reports) 1 (by kernel_rfl)) hy19, trivial⟩⟩⟩ ?_
          refine ro_split 58 (!y19.Got) (by kernel_rfl) (fun c20 => ?_) (fun c20 => ?_)
          · rw [if_neg (nt_of_f (nb_t c20))] at hres
            refine bind_elim hres fun y21 hy21 hres => ?_
            refine ro_q 8 [(35, .v (elP A10 ((2 : Int).toNat * 5 + 0))), (36, .v (elP A10 ((2 : Int).toNat * 5 + 0))), (37, I y21.Seq)] [0] [(0, B (y21.Seq == 7))] [(smIa 30 (.slice A10 y9.1.Reports.length k10) (.int .i64 2), elP A10 ((2 : Int).toNat * 5 + 0)), (smFa 45 (elP A10 ((2 : Int).toNat * 5 + 0)) 0, elP A10 ((2 : Int).toNat * 5 + 0)), (smLd 3 (elP A10 ((2 : Int).toNat * 5 + 0)), .int .i64 y21.Seq)] (by kernel_rfl) ⟨ob_ia (E := e_api_Report) (U := 45) (i := (2 : Int)) (sz := 5) (by kernel_rfl) (by kernel_rfl) (by kernel_rfl) (row_at (U := 45) (E := e_api_Report) (A := A10) (c := k10) (L := y9.1.Reports) 1 (by kernel_rfl)) hy21, ⟨ob_fa (E := e_api_Report) (i := (2 : Int)) (sz := 5) (o := 0) (d := 0) (by kernel_rfl) (by kernel_rfl) (row_at (U := 45) (E := e_api_Report) (A := A10) (c := k10) (L := y9.1.Reports) 1 (by kernel_rfl)) hy21, ⟨ob_ld1 (E := e_api_Report) (i := (2 : Int)) (sz := 5) (o := 0) (d := (.int .i64)) (by kernel_rfl) (by kernel_rfl) (by kernel_rfl) (by kernel_rfl) (row_at (U := 45) (E := e_api_Report) (A := A10) (c := k10) (L := y9.1.Reports) 1 (by kernel_rfl)) hy21, trivial⟩⟩⟩ ?_
            refine ro_end (by kernel_rfl) (fin_next ?_)
            refine rn_ret ?_
            refine fin_ret [.bool (y21.Seq == 7)] (by kernel_rfl) fun w' hw' => ?_
            have hq := Option.some.inj hres
            subst hq
            exact ⟨rfl, hw'.drop⟩
          · rw [if_pos ((nb_f c20))] at hres
            refine ro_q 8 [] [0] [(0, B false)] [] (by kernel_rfl) trivial ?_
            refine ro_end (by kernel_rfl) (fin_next ?_)
            refine rn_ret ?_
            refine fin_ret [.bool false] (by kernel_rfl) fun w' hw' => ?_
            have hq := Option.some.inj hres
            subst hq
            exact ⟨rfl, hw'.drop⟩
        · rw [if_neg (eq_f c18)] at hres
          refine ro_q 16 [] [0] [(0, B false)] [] (by kernel_rfl) trivial ?_
          refine ro_end (by kernel_rfl) (fin_next ?_)
          refine rn_ret ?_
          refine fin_ret [.bool false] (by kernel_rfl) fun w' hw' => ?_
          have hq := Option.some.inj hres
          subst hq
          exact ⟨rfl, hw'.drop⟩
      · rw [if_neg (eq_f c16)] at hres
        refine ro_q 24 [] [0] [(0, B false)] [] (by kernel_rfl) trivial ?_
        refine ro_end (by kernel_rfl) (fin_next ?_)
        refine rn_ret ?_
        refine fin_ret [.bool false] (by kernel_rfl) fun w' hw' => ?_
        have hq := Option.some.inj hres
        subst hq
        exact ⟨rfl, hw'.drop⟩
    · rw [if_neg (eq_f c14)] at hres
      refine ro_q 32 [] [0] [(0, B false)] [] (by kernel_rfl) trivial ?_
      refine ro_end (by kernel_rfl) (fin_next ?_)
      refine rn_ret ?_
      refine fin_ret [.bool false] (by kernel_rfl) fun w' hw' => ?_
      have hq := Option.some.inj hres
      subst hq
      exact ⟨rfl, hw'.drop⟩
  · rw [if_neg (eq_f c13)] at hres
    refine ro_q 38 [] [0] [(0, B false)] [] (by kernel_rfl) trivial ?_
    refine ro_end (by kernel_rfl) (fin_next ?_)
    refine rn_ret ?_
    refine fin_ret [.bool false] (by kernel_rfl) fun w' hw' => ?_
    have hq := Option.some.inj hres
    subst hq
    exact ⟨rfl, hw'.drop⟩
/- 5 flywheel/flywheelref08.Split -/
def ref08_Split.j4311 (r1 : (List S_api_Part) → Int → Option ((List S_api_Part) × Int)) (x7 : List S_api_Part) (x9 : Int) (y2165 : Int) (y2167 : Int) (y2171 : Int) (y2173 : Int) (j4307 : ByteArray) : Option ((List S_api_Part) × Int) :=
  (cat 4398046511104 x7 [(⟨w64 (bAnd .u8 y2171 31), w64 (y2173), j4307⟩ : S_api_Part)]).bind fun y4309 =>
  r1 y4309 (w64 (x9 + (w64 (4 + (w64 (4 * (w64 ((w64 ((w64 (y2165)) * 256)) + (w64 (y2167))))))))))
def ref08_Split.j4005 (r1 : (List S_api_Part) → Int → Option ((List S_api_Part) × Int)) (x7 : List S_api_Part) (x9 : Int) (y2165 : Int) (y2167 : Int) (y2171 : Int) (y2173 : Int) (y2175 : ByteArray) (y3395 : Int) : Option ((List S_api_Part) × Int) :=
  (bsl y2175 0 (w64 ((w64 (4 * (w64 ((w64 ((w64 (y2165)) * 256)) + (w64 (y2167)))))) - (w64 (y3395))))).bind fun y4003 =>
  ref08_Split.j4311 (r1) x7 x9 y2165 y2167 y2171 y2173 y4003
def ref08_Split.j3702 (r1 : (List S_api_Part) → Int → Option ((List S_api_Part) × Int)) (x7 : List S_api_Part) (x9 : Int) (y2165 : Int) (y2167 : Int) (y2171 : Int) (y2173 : Int) (y2175 : ByteArray) (y3395 : Int) (j3699 : Bool) : Option ((List S_api_Part) × Int) :=
  (if j3699 = true then some ([], 91) else ref08_Split.j4005 (r1) x7 x9 y2165 y2167 y2171 y2173 y2175 y3395)
def ref08_Split.j4006 (r1 : (List S_api_Part) → Int → Option ((List S_api_Part) × Int)) (x7 : List S_api_Part) (x9 : Int) (y2165 : Int) (y2167 : Int) (y2171 : Int) (y2173 : Int) (y2175 : ByteArray) : Option ((List S_api_Part) × Int) :=
  (bidx y2175 (w64 ((w64 (4 * (w64 ((w64 ((w64 (y2165)) * 256)) + (w64 (y2167)))))) - 1))).bind fun y3395 =>
  (if (w64 (y3395)) < 4 then ref08_Split.j3702 (r1) x7 x9 y2165 y2167 y2171 y2173 y2175 y3395 true else (if ((w64 (y3395)).tmod 4) = 0 then ref08_Split.j3702 (r1) x7 x9 y2165 y2167 y2171 y2173 y2175 y3395 (decide ((w64 (4 * (w64 ((w64 ((w64 (y2165)) * 256)) + (w64 (y2167)))))) < (w64 (y3395)))) else ref08_Split.j3702 (r1) x7 x9 y2165 y2167 y2171 y2173 y2175 y3395 true))
def ref08_Split.j3094 (r1 : (List S_api_Part) → Int → Option ((List S_api_Part) × Int)) (x7 : List S_api_Part) (x9 : Int) (y2165 : Int) (y2167 : Int) (y2171 : Int) (y2173 : Int) (y2175 : ByteArray) (j3091 : Bool) : Option ((List S_api_Part) × Int) :=
  (if j3091 = true then some ([], 91) else ref08_Split.j4006 (r1) x7 x9 y2165 y2167 y2171 y2173 y2175)
def ref08_Split.j4312 (r1 : (List S_api_Part) → Int → Option ((List S_api_Part) × Int)) (a1 : ByteArray) (x7 : List S_api_Part) (x9 : Int) (y2165 : Int) (y2167 : Int) (y2171 : Int) (y2173 : Int) (y2175 : ByteArray) : Option ((List S_api_Part) × Int) :=
  (bidx a1 x9).bind fun y2787 =>
  (if (bAnd .u8 (y2787.fdiv 32) 1) = 1 then (if (w64 (x9 + (w64 (4 + (w64 (4 * (w64 ((w64 ((w64 (y2165)) * 256)) + (w64 (y2167)))))))))) < (a1.size : Int) then ref08_Split.j3094 (r1) x7 x9 y2165 y2167 y2171 y2173 y2175 true else ref08_Split.j3094 (r1) x7 x9 y2165 y2167 y2171 y2173 y2175 ((w64 (4 * (w64 ((w64 ((w64 (y2165)) * 256)) + (w64 (y2167)))))) == 0)) else ref08_Split.j4311 (r1) x7 x9 y2165 y2167 y2171 y2173 y2175)
def ref08_Split.j2486 (r1 : (List S_api_Part) → Int → Option ((List S_api_Part) × Int)) (a1 : ByteArray) (x7 : List S_api_Part) (x9 : Int) (y2165 : Int) (y2167 : Int) (y2171 : Int) (y2173 : Int) (y2175 : ByteArray) (j2483 : Bool) : Option ((List S_api_Part) × Int) :=
  (if j2483 = true then some ([], 81) else ref08_Split.j4312 (r1) a1 x7 x9 y2165 y2167 y2171 y2173 y2175)
def ref08_Split.l2161 (a1 : ByteArray) : Nat → (List S_api_Part) → Int → Option ((List S_api_Part) × Int)
  | 0, _, _ => none
  | k + 1, x7, x9 =>
    (if x9 < (a1.size : Int) then (if (w64 ((a1.size : Int) - x9)) < 4 then some ([], 60) else (bidx a1 (w64 (x9 + 2))).bind fun y2165 =>
  (bidx a1 (w64 (x9 + 3))).bind fun y2167 =>
  (if (w64 ((w64 ((a1.size : Int) - x9)) - 4)) < (w64 (4 * (w64 ((w64 ((w64 (y2165)) * 256)) + (w64 (y2167)))))) then some ([], 60) else (bidx a1 x9).bind fun y2171 =>
  (bidx a1 (w64 (x9 + 1))).bind fun y2173 =>
  (bsl a1 (w64 (x9 + 4)) (w64 ((w64 (x9 + 4)) + (w64 (4 * (w64 ((w64 ((w64 (y2165)) * 256)) + (w64 (y2167))))))))).bind fun y2175 =>
  (bidx a1 x9).bind fun y2178 =>
  (if (y2178.fdiv 64) = 2 then (if (w64 (y2173)) < 192 then ref08_Split.j2486 (ref08_Split.l2161 a1 k) a1 x7 x9 y2165 y2167 y2171 y2173 y2175 true else ref08_Split.j2486 (ref08_Split.l2161 a1 k) a1 x7 x9 y2165 y2167 y2171 y2173 y2175 (decide (223 < (w64 (y2173))))) else some ([], 70)))) else some (x7, 0))
def ref08_Split (a1 : ByteArray) : Option ((List S_api_Part) × Int) :=
  (if 65536 < (a1.size : Int) then some ([], 2) else (if (sEq a1 (⟨#[]⟩ : ByteArray)) = true then some ([], 60) else ref08_Split.l2161 a1 FUEL [] 0))
theorem ref08_Split_ok {a1 : ByteArray} {r : (List S_api_Part) × Int} (hres : ref08_Split a1 = some r) {w0 w : World} {F : List Asn} (hw : SH w0 w (F)) :
    Calls Try.prog 5 #[.string a1] w fun e w' => ∃ A4314 k4314, e = .returned (.tuple #[.slice A4314 r.1.length k4314, .int .i64 r.2]) ∧ SH w0 w' ([slA 27 e_api_Part A4314 k4314 r.1] ++ F) := by
  refine fw_enter (n := 125) (bs := []) (env := [(0, S a1)]) (H := []) (F := F) Try.func5 rfl (by kernel_rfl) (by kernel_rfl) (by kernel_rfl) (hw.eq (by kernel_rfl)) ?_
  unfold ref08_Split at hres
  refine rn_seq ?_
  refine rn_q [] [0] [(0, S a1)] [] (by kernel_rfl) trivial (fin_next ?_)
  refine rn_seq ?_
  refine rn_seq ?_
  refine rn_q [] [0, 12] [(0, S a1), (12, B (decide (65536 < (a1.size : Int))))] [] (by kernel_rfl) trivial (fin_next ?_)
  refine rn_cond (decide (65536 < (a1.size : Int))) (by kernel_rfl) (fun c2 => ?_) (fun c2 => ?_)
  · rw [if_pos (of_decide_eq_true c2)] at hres
    refine rn_seq ?_
    refine rn_q [] [2, 3] [(2, .v (.slice none 0 0)), (3, I 2)] [] (by kernel_rfl) trivial (fin_next ?_)
    refine rn_ret (fin_then_ret ?_)
    refine fin_nil 27 e_api_Part ?_
    refine fin_ret [.slice none 0 0, .int .i64 2] (by kernel_rfl) fun w' hw' => ?_
    have hq := Option.some.inj hres
    subst hq
    exact ⟨none, 0, rfl, hw'.take (L' := [slA 27 e_api_Part none 0 []]) [0] [] (by kernel_rfl)⟩
  · rw [if_neg (of_decide_eq_false c2)] at hres
    refine rn_skip (fin_next ?_)
    refine rn_seq ?_
    refine rn_seq ?_
    refine rn_q [] [0, 14] [(0, S a1), (14, B (sEq a1 (⟨#[]⟩ : ByteArray)))] [] (by kernel_rfl) trivial (fin_next ?_)
    refine rn_cond (sEq a1 (⟨#[]⟩ : ByteArray)) (by kernel_rfl) (fun c4 => ?_) (fun c4 => ?_)
    · rw [if_pos (c4)] at hres
      refine rn_seq ?_
      refine rn_q [] [2, 3] [(2, .v (.slice none 0 0)), (3, I 60)] [] (by kernel_rfl) trivial (fin_next ?_)
      refine rn_ret (fin_then_ret ?_)
      refine fin_nil 27 e_api_Part ?_
      refine fin_ret [.slice none 0 0, .int .i64 60] (by kernel_rfl) fun w' hw' => ?_
      have hq := Option.some.inj hres
      subst hq
      exact ⟨none, 0, rfl, hw'.take (L' := [slA 27 e_api_Part none 0 []]) [0] [] (by kernel_rfl)⟩
    · rw [if_neg (nt_of_f c4)] at hres
      refine rn_skip (fin_next ?_)
      refine rn_seq ?_
      refine rn_q [] [0, 4] [(0, S a1), (4, .v (.slice none 0 0))] [] (by kernel_rfl) trivial (fin_next ?_)
      refine rn_seq ?_
      refine rn_seq ?_
      refine rn_q [] [0, 4, 5] [(0, S a1), (4, .v (.slice none 0 0)), (5, I 0)] [] (by kernel_rfl) trivial (fin_next ?_)
      refine rn_block ?_
      refine rn_nil 27 e_api_Part ?_
      refine rn_loop (V := List S_api_Part × Int × Option Addr × Nat) (J := fun k v => ref08_Split.l2161 a1 k v.1 v.2.1 = some r) (sv := fun v => ⟨[], [(0, S a1), (4, .v (.slice v.2.2.1 v.1.length v.2.2.2)), (5, I v.2.1)], [.a (slA 27 e_api_Part v.2.2.1 v.2.2.2 v.1)]⟩) FUEL ([], 0, none, 0) hres (fun a w hs => hs.conv [0] (by kernel_rfl) (by kernel_rfl) ⟨[], by kernel_rfl⟩) ?_
      rintro k2161 ⟨x7, x9, A8, c8⟩ hres
      rcases k2161 with _ | k2161
      · rw [ref08_Split.l2161] at hres; cases hres
      · rw [ref08_Split.l2161] at hres
        refine rn_seq ?_
        refine rn_seq ?_
        refine rn_q [] [0, 4, 5, 18] [(0, S a1), (4, .v (.slice A8 x7.length c8)), (5, I x9), (18, B (decide (x9 < (a1.size : Int))))] [] (by kernel_rfl) trivial (fin_next ?_)
        refine rn_cond (decide (x9 < (a1.size : Int))) (by kernel_rfl) (fun c2162 => ?_) (fun c2162 => ?_)
        · rw [if_pos (of_decide_eq_true c2162)] at hres
          refine rn_skip (fin_next ?_)
          refine rn_block ?_
          refine rn_seq ?_
          refine rn_seq ?_
          refine rn_q [] [0, 4, 5, 23] [(0, S a1), (4, .v (.slice A8 x7.length c8)), (5, I x9), (23, B (decide ((w64 ((a1.size : Int) - x9)) < 4)))] [] (by kernel_rfl) trivial (fin_next ?_)
          refine rn_cond (decide ((w64 ((a1.size : Int) - x9)) < 4)) (by kernel_rfl) (fun c2163 => ?_) (fun c2163 => ?_)
          · rw [if_pos (of_decide_eq_true c2163)] at hres
            refine rn_seq ?_
            refine rn_q [] [2, 3] [(2, .v (.slice none 0 0)), (3, I 60)] [] (by kernel_rfl) trivial (fin_next ?_)
            refine rn_ret (fin_then_ret (fin_block_ret (fin_then_ret (fin_block_ret (fin_then_ret ?_)))))
            refine fin_nil 27 e_api_Part ?_
            refine fin_ret [.slice none 0 0, .int .i64 60] (by kernel_rfl) fun w' hw' => ?_
            have hq := Option.some.inj hres
            subst hq
            exact ⟨none, 0, rfl, hw'.take (L' := [slA 27 e_api_Part none 0 []]) [0] [slA 27 e_api_Part A8 c8 x7] (by kernel_rfl)⟩
          · rw [if_neg (of_decide_eq_false c2163)] at hres
            refine rn_skip (fin_next ?_)
            refine rn_seq ?_
            refine bind_elim hres fun y2165 hy2166 hres => ?_
            refine bind_elim hres fun y2167 hy2168 hres => ?_
            refine rn_held (hden [] [.a (slA 27 e_api_Part A8 c8 x7)] ++ F) (by kernel_rfl) ?_
            refine rh_q [.a (slA 27 e_api_Part A8 c8 x7)] 0 [0, 1, 2, 3, 4, 5, 6, 7, 8, 9, 10, 11, 12, 13] [(3, U .u8 y2165), (9, U .u8 y2167)] [0, 4, 5, 6] [(0, S a1), (4, .v (.slice A8 x7.length c8)), (5, I x9), (6, I (w64 (4 * (w64 ((w64 ((w64 (y2165)) * 256)) + (w64 (y2167)))))))] [true, true, true, true, true, true, true, true, true, true, true, true, true, true] [(smIx 9 (.string a1) (.int .i64 (w64 (x9 + 2))), .int .u8 y2165), (smIx 9 (.string a1) (.int .i64 (w64 (x9 + 3))), .int .u8 y2167)] rfl (by kernel_rfl) rfl [0] [] (by kernel_rfl) (by kernel_rfl) ⟨ob_bidx (by kernel_rfl) hy2166, ⟨ob_bidx (by kernel_rfl) hy2168, trivial⟩⟩ ?_
            refine rh_end (by kernel_rfl) (fin_next ?_)
            refine rn_seq ?_
            refine rn_seq ?_
            refine rn_q [] [0, 4, 5, 6, 43] [(0, S a1), (4, .v (.slice A8 x7.length c8)), (5, I x9), (6, I (w64 (4 * (w64 ((w64 ((w64 (y2165)) * 256)) + (w64 (y2167))))))), (43, B (decide ((w64 ((w64 ((a1.size : Int) - x9)) - 4)) < (w64 (4 * (w64 ((w64 ((w64 (y2165)) * 256)) + (w64 (y2167)))))))))] [] (by kernel_rfl) trivial (fin_next ?_)
            refine rn_cond (decide ((w64 ((w64 ((a1.size : Int) - x9)) - 4)) < (w64 (4 * (w64 ((w64 ((w64 (y2165)) * 256)) + (w64 (y2167)))))))) (by kernel_rfl) (fun c2169 => ?_) (fun c2169 => ?_)
            · rw [if_pos (of_decide_eq_true c2169)] at hres
              refine rn_seq ?_
              refine rn_q [] [2, 3] [(2, .v (.slice none 0 0)), (3, I 60)] [] (by kernel_rfl) trivial (fin_next ?_)
              refine rn_ret (fin_then_ret (fin_block_ret (fin_then_ret (fin_block_ret (fin_then_ret ?_)))))
              refine fin_nil 27 e_api_Part ?_
              refine fin_ret [.slice none 0 0, .int .i64 60] (by kernel_rfl) fun w' hw' => ?_
              have hq := Option.some.inj hres
              subst hq
              exact ⟨none, 0, rfl, hw'.take (L' := [slA 27 e_api_Part none 0 []]) [0] [slA 27 e_api_Part A8 c8 x7] (by kernel_rfl)⟩
            · rw [if_neg (of_decide_eq_false c2169)] at hres
              refine rn_skip (fin_next ?_)
              refine rn_seq ?_
              refine bind_elim hres fun y2171 hy2172 hres => ?_
              refine bind_elim hres fun y2173 hy2174 hres => ?_
              refine bind_elim hres fun y2175 hy2176 hres => ?_
              refine rn_held (hden [] [.a (slA 27 e_api_Part A8 c8 x7)] ++ F) (by kernel_rfl) ?_
              refine rh_q [.a (slA 27 e_api_Part A8 c8 x7)] 2 [0, 1, 2, 3, 4, 5, 6, 7, 8, 9, 10, 11, 12, 13, 14, 15, 16, 17, 18] [(2, U .u8 y2171), (8, U .u8 y2173), (17, S y2175)] [0, 4, 5, 6, 62] [(0, S a1), (4, .v (.slice A8 x7.length c8)), (5, I x9), (6, I (w64 (4 * (w64 ((w64 ((w64 (y2165)) * 256)) + (w64 (y2167))))))), (62, .v (.agg #[.int .i64 (w64 (bAnd .u8 y2171 31)), .int .i64 (w64 (y2173)), .string y2175]))] [true, true, true, true, true, true, true, true, true, true, true, true, true, true, true, true, true, true, true, false, false] [(smIx 9 (.string a1) (.int .i64 x9), .int .u8 y2171), (smIx 9 (.string a1) (.int .i64 (w64 (x9 + 1))), .int .u8 y2173), (smSl 9 (.string a1) (some (.int .i64 (w64 (x9 + 4)))) (some (.int .i64 (w64 ((w64 (x9 + 4)) + (w64 (4 * (w64 ((w64 ((w64 (y2165)) * 256)) + (w64 (y2167)))))))))) none, .string y2175)] rfl (by kernel_rfl) rfl [0] [] (by kernel_rfl) (by kernel_rfl) ⟨ob_bidx (by kernel_rfl) hy2172, ⟨ob_bidx (by kernel_rfl) hy2174, ⟨ob_bslLH (by kernel_rfl) hy2176, trivial⟩⟩⟩ ?_
              refine rh_1 19 (by kernel_rfl) ?_
              refine op_alloc 27 7 (.agg #[.int .i64 0, .int .i64 0, .string (⟨#[]⟩ : ByteArray)]) [I 0, I 0, S (⟨#[]⟩ : ByteArray)] (fun b2177 => [b2177]) (fun b2177 => [.c 0 [I 0, I 0, S (⟨#[]⟩ : ByteArray)] 27, .a (slA 27 e_api_Part A8 c8 x7)]) (by kernel_rfl) (by kernel_rfl) (by kernel_rfl) (by kernel_rfl) 0 (fun _ => by kernel_rfl) (fun _ => mt_bs (by kernel_rfl)) (fun _ => by kernel_rfl) (fun b2177 => fin_held [.a (slA 27 e_api_Part A8 c8 x7)] [true, true, true, true, true, true, true, true, true, true, true, true, true, true, true, true, true, true, true, true, false] (by kernel_rfl) rfl [1] [cellsA b2177 [.int .i64 0, .int .i64 0, .string (⟨#[]⟩ : ByteArray)] 27] (by kernel_rfl) ?_)
              refine rh_1 20 (by kernel_rfl) ?_
              refine op_store 27 (.tmp 7) (.tmp 62) 0 0 (.v (.agg #[.int .i64 (w64 (bAnd .u8 y2171 31)), .int .i64 (w64 (y2173)), .string y2175])) [.c 0 [I (w64 (bAnd .u8 y2171 31)), I (w64 (y2173)), S y2175] 27, .a (slA 27 e_api_Part A8 c8 x7)] (by kernel_rfl) (by kernel_rfl) (by kernel_rfl) (by kernel_rfl) (fin_held [.a (slA 27 e_api_Part A8 c8 x7)] [true, true, true, true, true, true, true, true, true, true, true, true, true, true, true, true, true, true, true, true, true] (by kernel_rfl) rfl [1] [cellsA b2177 [.int .i64 (w64 (bAnd .u8 y2171 31)), .int .i64 (w64 (y2173)), .string y2175] 27] (by kernel_rfl) ?_)
              refine rh_end (by kernel_rfl) (fin_next ?_)
              refine rn_seq ?_
              refine rn_seq ?_
              refine bind_elim hres fun y2178 hy2179 hres => ?_
              refine rn_q [(2, U .u8 y2178)] [0, 4, 5, 6, 7, 67] [(0, S a1), (4, .v (.slice A8 x7.length c8)), (5, I x9), (6, I (w64 (4 * (w64 ((w64 ((w64 (y2165)) * 256)) + (w64 (y2167))))))), (7, .p 0 0), (67, B ((y2178.fdiv 64) != 2))] [(smIx 9 (.string a1) (.int .i64 x9), .int .u8 y2178)] (by kernel_rfl) ⟨ob_bidx (by kernel_rfl) hy2179, trivial⟩ (fin_next ?_)
              refine rn_cond ((y2178.fdiv 64) != 2) (by kernel_rfl) (fun c2180 => ?_) (fun c2180 => ?_)
              · rw [if_neg (ne_t c2180)] at hres
                refine rn_seq ?_
                refine rn_q [] [2, 3] [(2, .v (.slice none 0 0)), (3, I 70)] [] (by kernel_rfl) trivial (fin_next ?_)
                refine rn_ret (fin_then_ret (fin_block_ret (fin_then_ret (fin_block_ret (fin_then_ret ?_)))))
                refine fin_nil 27 e_api_Part ?_
                refine fin_ret [.slice none 0 0, .int .i64 70] (by kernel_rfl) fun w' hw' => ?_
                have hq := Option.some.inj hres
                subst hq
                exact ⟨none, 0, rfl, hw'.take (L' := [slA 27 e_api_Part none 0 []]) [0] [cellsA b2177 [.int .i64 (w64 (bAnd .u8 y2171 31)), .int .i64 (w64 (y2173)), .string y2175] 27, slA 27 e_api_Part A8 c8 x7] (by kernel_rfl)⟩
              · rw [if_pos (ne_f c2180)] at hres
                refine rn_skip (fin_next ?_)
                refine rn_join (V := Unit) (J := fun v => ref08_Split.j4312 (ref08_Split.l2161 a1 k2161) a1 x7 x9 y2165 y2167 y2171 y2173 y2175 = some r) (sv := fun v => ⟨[b2177], [(0, S a1), (4, .v (.slice A8 x7.length c8)), (5, I x9), (6, I (w64 (4 * (w64 ((w64 ((w64 (y2165)) * 256)) + (w64 (y2167))))))), (7, .p 0 0)], [.c 0 [I (w64 (bAnd .u8 y2171 31)), I (w64 (y2173)), S y2175] 27, .a (slA 27 e_api_Part A8 c8 x7)]⟩) ?_ ?_
                · refine rn_join (V := Bool) (J := fun v => ref08_Split.j2486 (ref08_Split.l2161 a1 k2161) a1 x7 x9 y2165 y2167 y2171 y2173 y2175 v = some r) (sv := fun v => ⟨[b2177], [(0, S a1), (4, .v (.slice A8 x7.length c8)), (5, I x9), (6, I (w64 (4 * (w64 ((w64 ((w64 (y2165)) * 256)) + (w64 (y2167))))))), (7, .p 0 0), (75, B v)], [.c 0 [I (w64 (bAnd .u8 y2171 31)), I (w64 (y2173)), S y2175] 27, .a (slA 27 e_api_Part A8 c8 x7)]⟩) ?_ ?_
                  · refine rn_text ?_
                    refine ro_q 4 [] [0, 4, 5, 6, 7, 71] [(0, S a1), (4, .v (.slice A8 x7.length c8)), (5, I x9), (6, I (w64 (4 * (w64 ((w64 ((w64 (y2165)) * 256)) + (w64 (y2167))))))), (7, .p 0 0), (71, B (decide ((w64 (y2173)) < 192)))] [] (by kernel_rfl) trivial ?_
                    refine ro_split 71 (decide ((w64 (y2173)) < 192)) (by kernel_rfl) (fun c2182 => ?_) (fun c2182 => ?_)
                    · rw [if_pos (of_decide_eq_true c2182)] at hres
                      refine ro_q 4 [] [0, 4, 5, 6, 7, 75] [(0, S a1), (4, .v (.slice A8 x7.length c8)), (5, I x9), (6, I (w64 (4 * (w64 ((w64 ((w64 (y2165)) * 256)) + (w64 (y2167))))))), (7, .p 0 0), (75, B true)] [] (by kernel_rfl) trivial ?_
                      refine ro_end (by kernel_rfl) (fin_then ?_)
                      refine fin_join true hres [0, 0] [] (by kernel_rfl) (by kernel_rfl) (by kernel_rfl)
                    · rw [if_neg (of_decide_eq_false c2182)] at hres
                      refine ro_q 4 [] [0, 4, 5, 6, 7, 75] [(0, S a1), (4, .v (.slice A8 x7.length c8)), (5, I x9), (6, I (w64 (4 * (w64 ((w64 ((w64 (y2165)) * 256)) + (w64 (y2167))))))), (7, .p 0 0), (75, B (decide (223 < (w64 (y2173)))))] [] (by kernel_rfl) trivial ?_
                      refine ro_end (by kernel_rfl) (fin_then ?_)
                      refine fin_join (decide (223 < (w64 (y2173)))) hres [0, 0] [] (by kernel_rfl) (by kernel_rfl) (by kernel_rfl)
                  · rintro j2483 hres
                    unfold ref08_Split.j2486 at hres
                    refine rn_cond (j2483) (by kernel_rfl) (fun c2484 => ?_) (fun c2484 => ?_)
                    · rw [if_pos (c2484)] at hres
                      refine rn_seq ?_
                      refine rn_q [] [2, 3] [(2, .v (.slice none 0 0)), (3, I 81)] [] (by kernel_rfl) trivial (fin_next ?_)
                      refine rn_ret (fin_then_ret (fin_block_ret (fin_then_ret (fin_block_ret (fin_then_ret ?_)))))
                      refine fin_nil 27 e_api_Part ?_
                      refine fin_ret [.slice none 0 0, .int .i64 81] (by kernel_rfl) fun w' hw' => ?_
                      have hq := Option.some.inj hres
                      subst hq
                      exact ⟨none, 0, rfl, hw'.take (L' := [slA 27 e_api_Part none 0 []]) [0] [cellsA b2177 [.int .i64 (w64 (bAnd .u8 y2171 31)), .int .i64 (w64 (y2173)), .string y2175] 27, slA 27 e_api_Part A8 c8 x7] (by kernel_rfl)⟩
                    · rw [if_neg (nt_of_f c2484)] at hres
                      refine rn_skip (fin_then ?_)
                      refine fin_join () hres [0, 0] [] (by kernel_rfl) (by kernel_rfl) (by kernel_rfl)
                · rintro ⟨⟩ hres
                  unfold ref08_Split.j4312 at hres
                  refine rn_seq ?_
                  refine bind_elim hres fun y2787 hy2788 hres => ?_
                  refine rn_q [(2, U .u8 y2787)] [0, 4, 5, 6, 7, 8] [(0, S a1), (4, .v (.slice A8 x7.length c8)), (5, I x9), (6, I (w64 (4 * (w64 ((w64 ((w64 (y2165)) * 256)) + (w64 (y2167))))))), (7, .p 0 0), (8, B ((bAnd .u8 (y2787.fdiv 32) 1) == 1))] [(smIx 9 (.string a1) (.int .i64 x9), .int .u8 y2787)] (by kernel_rfl) ⟨ob_bidx (by kernel_rfl) hy2788, trivial⟩ (fin_next ?_)
                  refine rn_seq ?_
                  refine rn_q [] [0, 4, 5, 6, 7, 8] [(0, S a1), (4, .v (.slice A8 x7.length c8)), (5, I (w64 (x9 + (w64 (4 + (w64 (4 * (w64 ((w64 ((w64 (y2165)) * 256)) + (w64 (y2167))))))))))), (6, I (w64 (4 * (w64 ((w64 ((w64 (y2165)) * 256)) + (w64 (y2167))))))), (7, .p 0 0), (8, B ((bAnd .u8 (y2787.fdiv 32) 1) == 1))] [] (by kernel_rfl) trivial (fin_next ?_)
                  refine rn_join (V := ByteArray) (J := fun v => ref08_Split.j4311 (ref08_Split.l2161 a1 k2161) x7 x9 y2165 y2167 y2171 y2173 v = some r) (sv := fun v => ⟨[b2177], [(0, S a1), (4, .v (.slice A8 x7.length c8)), (5, I (w64 (x9 + (w64 (4 + (w64 (4 * (w64 ((w64 ((w64 (y2165)) * 256)) + (w64 (y2167))))))))))), (7, .p 0 0)], [.c 0 [I (w64 (bAnd .u8 y2171 31)), I (w64 (y2173)), S v] 27, .a (slA 27 e_api_Part A8 c8 x7)]⟩) ?_ ?_
                  · refine rn_seq ?_
                    refine rn_q [] [0, 4, 5, 6, 7, 86] [(0, S a1), (4, .v (.slice A8 x7.length c8)), (5, I (w64 (x9 + (w64 (4 + (w64 (4 * (w64 ((w64 ((w64 (y2165)) * 256)) + (w64 (y2167))))))))))), (6, I (w64 (4 * (w64 ((w64 ((w64 (y2165)) * 256)) + (w64 (y2167))))))), (7, .p 0 0), (86, B ((bAnd .u8 (y2787.fdiv 32) 1) == 1))] [] (by kernel_rfl) trivial (fin_next ?_)
                    refine rn_cond ((bAnd .u8 (y2787.fdiv 32) 1) == 1) (by kernel_rfl) (fun c2789 => ?_) (fun c2789 => ?_)
                    · rw [if_pos (eq_t c2789)] at hres
                      refine rn_join (V := Unit) (J := fun v => ref08_Split.j4006 (ref08_Split.l2161 a1 k2161) x7 x9 y2165 y2167 y2171 y2173 y2175 = some r) (sv := fun v => ⟨[b2177], [(0, S a1), (4, .v (.slice A8 x7.length c8)), (5, I (w64 (x9 + (w64 (4 + (w64 (4 * (w64 ((w64 ((w64 (y2165)) * 256)) + (w64 (y2167))))))))))), (6, I (w64 (4 * (w64 ((w64 ((w64 (y2165)) * 256)) + (w64 (y2167))))))), (7, .p 0 0)], [.c 0 [I (w64 (bAnd .u8 y2171 31)), I (w64 (y2173)), S y2175] 27, .a (slA 27 e_api_Part A8 c8 x7)]⟩) ?_ ?_
                      · refine rn_join (V := Bool) (J := fun v => ref08_Split.j3094 (ref08_Split.l2161 a1 k2161) x7 x9 y2165 y2167 y2171 y2173 y2175 v = some r) (sv := fun v => ⟨[b2177], [(0, S a1), (4, .v (.slice A8 x7.length c8)), (5, I (w64 (x9 + (w64 (4 + (w64 (4 * (w64 ((w64 ((w64 (y2165)) * 256)) + (w64 (y2167))))))))))), (6, I (w64 (4 * (w64 ((w64 ((w64 (y2165)) * 256)) + (w64 (y2167))))))), (7, .p 0 0), (94, B v)], [.c 0 [I (w64 (bAnd .u8 y2171 31)), I (w64 (y2173)), S y2175] 27, .a (slA 27 e_api_Part A8 c8 x7)]⟩) ?_ ?_
                        · refine rn_text ?_
                          refine ro_q 5 [] [0, 4, 5, 6, 7, 91] [(0, S a1), (4, .v (.slice A8 x7.length c8)), (5, I (w64 (x9 + (w64 (4 + (w64 (4 * (w64 ((w64 ((w64 (y2165)) * 256)) + (w64 (y2167))))))))))), (6, I (w64 (4 * (w64 ((w64 ((w64 (y2165)) * 256)) + (w64 (y2167))))))), (7, .p 0 0), (91, B (decide ((w64 (x9 + (w64 (4 + (w64 (4 * (w64 ((w64 ((w64 (y2165)) * 256)) + (w64 (y2167)))))))))) < (a1.size : Int))))] [] (by kernel_rfl) trivial ?_
                          refine ro_split 91 (decide ((w64 (x9 + (w64 (4 + (w64 (4 * (w64 ((w64 ((w64 (y2165)) * 256)) + (w64 (y2167)))))))))) < (a1.size : Int))) (by kernel_rfl) (fun c2790 => ?_) (fun c2790 => ?_)
                          · rw [if_pos (of_decide_eq_true c2790)] at hres
                            refine ro_q 3 [] [0, 4, 5, 6, 7, 94] [(0, S a1), (4, .v (.slice A8 x7.length c8)), (5, I (w64 (x9 + (w64 (4 + (w64 (4 * (w64 ((w64 ((w64 (y2165)) * 256)) + (w64 (y2167))))))))))), (6, I (w64 (4 * (w64 ((w64 ((w64 (y2165)) * 256)) + (w64 (y2167))))))), (7, .p 0 0), (94, B true)] [] (by kernel_rfl) trivial ?_
                            refine ro_end (by kernel_rfl) (fin_then ?_)
                            refine fin_join true hres [0, 0] [] (by kernel_rfl) (by kernel_rfl) (by kernel_rfl)
                          · rw [if_neg (of_decide_eq_false c2790)] at hres
                            refine ro_q 3 [] [0, 4, 5, 6, 7, 94] [(0, S a1), (4, .v (.slice A8 x7.length c8)), (5, I (w64 (x9 + (w64 (4 + (w64 (4 * (w64 ((w64 ((w64 (y2165)) * 256)) + (w64 (y2167))))))))))), (6, I (w64 (4 * (w64 ((w64 ((w64 (y2165)) * 256)) + (w64 (y2167))))))), (7, .p 0 0), (94, B ((w64 (4 * (w64 ((w64 ((w64 (y2165)) * 256)) + (w64 (y2167)))))) == 0))] [] (by kernel_rfl) trivial ?_
                            refine ro_end (by kernel_rfl) (fin_then ?_)
                            refine fin_join ((w64 (4 * (w64 ((w64 ((w64 (y2165)) * 256)) + (w64 (y2167)))))) == 0) hres [0, 0] [] (by kernel_rfl) (by kernel_rfl) (by kernel_rfl)
                        · rintro j3091 hres
                          unfold ref08_Split.j3094 at hres
                          refine rn_cond (j3091) (by kernel_rfl) (fun c3092 => ?_) (fun c3092 => ?_)
                          · rw [if_pos (c3092)] at hres
                            refine rn_seq ?_
                            refine rn_q [] [2, 3] [(2, .v (.slice none 0 0)), (3, I 91)] [] (by kernel_rfl) trivial (fin_next ?_)
                            refine rn_ret (fin_then_ret (fin_then_ret (fin_block_ret (fin_then_ret (fin_block_ret (fin_then_ret ?_))))))
                            refine fin_nil 27 e_api_Part ?_
                            refine fin_ret [.slice none 0 0, .int .i64 91] (by kernel_rfl) fun w' hw' => ?_
                            have hq := Option.some.inj hres
                            subst hq
                            exact ⟨none, 0, rfl, hw'.take (L' := [slA 27 e_api_Part none 0 []]) [0] [cellsA b2177 [.int .i64 (w64 (bAnd .u8 y2171 31)), .int .i64 (w64 (y2173)), .string y2175] 27, slA 27 e_api_Part A8 c8 x7] (by kernel_rfl)⟩
                          · rw [if_neg (nt_of_f c3092)] at hres
                            refine rn_skip (fin_then ?_)
                            refine fin_join () hres [0, 0] [] (by kernel_rfl) (by kernel_rfl) (by kernel_rfl)
                      · rintro ⟨⟩ hres
                        unfold ref08_Split.j4006 at hres
                        refine rn_seq ?_
                        refine bind_elim hres fun y3395 hy3396 hres => ?_
                        refine rn_q [(4, U .u8 y3395)] [0, 4, 5, 6, 7, 9] [(0, S a1), (4, .v (.slice A8 x7.length c8)), (5, I (w64 (x9 + (w64 (4 + (w64 (4 * (w64 ((w64 ((w64 (y2165)) * 256)) + (w64 (y2167))))))))))), (6, I (w64 (4 * (w64 ((w64 ((w64 (y2165)) * 256)) + (w64 (y2167))))))), (7, .p 0 0), (9, I (w64 (y3395)))] [(smIx 9 (.string y2175) (.int .i64 (w64 ((w64 (4 * (w64 ((w64 ((w64 (y2165)) * 256)) + (w64 (y2167)))))) - 1))), .int .u8 y3395)] (by kernel_rfl) ⟨ob_bidx (by kernel_rfl) hy3396, trivial⟩ (fin_next ?_)
                        refine rn_join (V := Unit) (J := fun v => ref08_Split.j4005 (ref08_Split.l2161 a1 k2161) x7 x9 y2165 y2167 y2171 y2173 y2175 y3395 = some r) (sv := fun v => ⟨[b2177], [(0, S a1), (4, .v (.slice A8 x7.length c8)), (5, I (w64 (x9 + (w64 (4 + (w64 (4 * (w64 ((w64 ((w64 (y2165)) * 256)) + (w64 (y2167))))))))))), (6, I (w64 (4 * (w64 ((w64 ((w64 (y2165)) * 256)) + (w64 (y2167))))))), (7, .p 0 0), (9, I (w64 (y3395)))], [.c 0 [I (w64 (bAnd .u8 y2171 31)), I (w64 (y2173)), S y2175] 27, .a (slA 27 e_api_Part A8 c8 x7)]⟩) ?_ ?_
                        · refine rn_join (V := Bool) (J := fun v => ref08_Split.j3702 (ref08_Split.l2161 a1 k2161) x7 x9 y2165 y2167 y2171 y2173 y2175 y3395 v = some r) (sv := fun v => ⟨[b2177], [(0, S a1), (4, .v (.slice A8 x7.length c8)), (5, I (w64 (x9 + (w64 (4 + (w64 (4 * (w64 ((w64 ((w64 (y2165)) * 256)) + (w64 (y2167))))))))))), (6, I (w64 (4 * (w64 ((w64 ((w64 (y2165)) * 256)) + (w64 (y2167))))))), (7, .p 0 0), (9, I (w64 (y3395))), (112, B v)], [.c 0 [I (w64 (bAnd .u8 y2171 31)), I (w64 (y2173)), S y2175] 27, .a (slA 27 e_api_Part A8 c8 x7)]⟩) ?_ ?_
                          · refine rn_text ?_
                            refine ro_q 3 [] [0, 4, 5, 6, 7, 9, 103] [(0, S a1), (4, .v (.slice A8 x7.length c8)), (5, I (w64 (x9 + (w64 (4 + (w64 (4 * (w64 ((w64 ((w64 (y2165)) * 256)) + (w64 (y2167))))))))))), (6, I (w64 (4 * (w64 ((w64 ((w64 (y2165)) * 256)) + (w64 (y2167))))))), (7, .p 0 0), (9, I (w64 (y3395))), (103, B (decide ((w64 (y3395)) < 4)))] [] (by kernel_rfl) trivial ?_
                            refine ro_split 103 (decide ((w64 (y3395)) < 4)) (by kernel_rfl) (fun c3397 => ?_) (fun c3397 => ?_)
                            · rw [if_pos (of_decide_eq_true c3397)] at hres
                              refine ro_q 9 [] [0, 4, 5, 6, 7, 9, 112] [(0, S a1), (4, .v (.slice A8 x7.length c8)), (5, I (w64 (x9 + (w64 (4 + (w64 (4 * (w64 ((w64 ((w64 (y2165)) * 256)) + (w64 (y2167))))))))))), (6, I (w64 (4 * (w64 ((w64 ((w64 (y2165)) * 256)) + (w64 (y2167))))))), (7, .p 0 0), (9, I (w64 (y3395))), (112, B true)] [] (by kernel_rfl) trivial ?_
                              refine ro_end (by kernel_rfl) (fin_then ?_)
                              refine fin_join true hres [0, 0] [] (by kernel_rfl) (by kernel_rfl) (by kernel_rfl)
                            · rw [if_neg (of_decide_eq_false c3397)] at hres
                              refine ro_q 5 [] [0, 4, 5, 6, 7, 9, 108] [(0, S a1), (4, .v (.slice A8 x7.length c8)), (5, I (w64 (x9 + (w64 (4 + (w64 (4 * (w64 ((w64 ((w64 (y2165)) * 256)) + (w64 (y2167))))))))))), (6, I (w64 (4 * (w64 ((w64 ((w64 (y2165)) * 256)) + (w64 (y2167))))))), (7, .p 0 0), (9, I (w64 (y3395))), (108, B (((w64 (y3395)).tmod 4) != 0))] [] (by kernel_rfl) trivial ?_
                              refine ro_split 108 (((w64 (y3395)).tmod 4) != 0) (by kernel_rfl) (fun c3398 => ?_) (fun c3398 => ?_)
                              · rw [if_neg (ne_t c3398)] at hres
                                refine ro_q 4 [] [0, 4, 5, 6, 7, 9, 112] [(0, S a1), (4, .v (.slice A8 x7.length c8)), (5, I (w64 (x9 + (w64 (4 + (w64 (4 * (w64 ((w64 ((w64 (y2165)) * 256)) + (w64 (y2167))))))))))), (6, I (w64 (4 * (w64 ((w64 ((w64 (y2165)) * 256)) + (w64 (y2167))))))), (7, .p 0 0), (9, I (w64 (y3395))), (112, B true)] [] (by kernel_rfl) trivial ?_
                                refine ro_end (by kernel_rfl) (fin_then ?_)
                                refine fin_join true hres [0, 0] [] (by kernel_rfl) (by kernel_rfl) (by kernel_rfl)
                              · rw [if_pos (ne_f c3398)] at hres
                                refine ro_q 4 [] [0, 4, 5, 6, 7, 9, 112] [(0, S a1), (4, .v (.slice A8 x7.length c8)), (5, I (w64 (x9 + (w64 (4 + (w64 (4 * (w64 ((w64 ((w64 (y2165)) * 256)) + (w64 (y2167))))))))))), (6, I (w64 (4 * (w64 ((w64 ((w64 (y2165)) * 256)) + (w64 (y2167))))))), (7, .p 0 0), (9, I (w64 (y3395))), (112, B (decide ((w64 (4 * (w64 ((w64 ((w64 (y2165)) * 256)) + (w64 (y2167)))))) < (w64 (y3395)))))] [] (by kernel_rfl) trivial ?_
                                refine ro_end (by kernel_rfl) (fin_then ?_)
                                refine fin_join (decide ((w64 (4 * (w64 ((w64 ((w64 (y2165)) * 256)) + (w64 (y2167)))))) < (w64 (y3395)))) hres [0, 0] [] (by kernel_rfl) (by kernel_rfl) (by kernel_rfl)
                          · rintro j3699 hres
                            unfold ref08_Split.j3702 at hres
                            refine rn_cond (j3699) (by kernel_rfl) (fun c3700 => ?_) (fun c3700 => ?_)
                            · rw [if_pos (c3700)] at hres
                              refine rn_seq ?_
                              refine rn_q [] [2, 3] [(2, .v (.slice none 0 0)), (3, I 91)] [] (by kernel_rfl) trivial (fin_next ?_)
                              refine rn_ret (fin_then_ret (fin_then_ret (fin_block_ret (fin_then_ret (fin_block_ret (fin_then_ret ?_))))))
                              refine fin_nil 27 e_api_Part ?_
                              refine fin_ret [.slice none 0 0, .int .i64 91] (by kernel_rfl) fun w' hw' => ?_
                              have hq := Option.some.inj hres
                              subst hq
                              exact ⟨none, 0, rfl, hw'.take (L' := [slA 27 e_api_Part none 0 []]) [0] [cellsA b2177 [.int .i64 (w64 (bAnd .u8 y2171 31)), .int .i64 (w64 (y2173)), .string y2175] 27, slA 27 e_api_Part A8 c8 x7] (by kernel_rfl)⟩
                            · rw [if_neg (nt_of_f c3700)] at hres
                              refine rn_skip (fin_then ?_)
                              refine fin_join () hres [0, 0] [] (by kernel_rfl) (by kernel_rfl) (by kernel_rfl)
                        · rintro ⟨⟩ hres
                          unfold ref08_Split.j4005 at hres
                          refine bind_elim hres fun y4003 hy4004 hres => ?_
                          refine rn_text ?_
                          refine ro_q 7 [(5, S y4003)] [0, 4, 5, 7, 118, 119] [(0, S a1), (4, .v (.slice A8 x7.length c8)), (5, I (w64 (x9 + (w64 (4 + (w64 (4 * (w64 ((w64 ((w64 (y2165)) * 256)) + (w64 (y2167))))))))))), (7, .p 0 0), (118, S y4003), (119, .p 0 2)] [(smSl 9 (.string y2175) none (some (.int .i64 (w64 ((w64 (4 * (w64 ((w64 ((w64 (y2165)) * 256)) + (w64 (y2167)))))) - (w64 (y3395)))))) none, .string y4003)] (by kernel_rfl) ⟨ob_bslH (by kernel_rfl) hy4004, trivial⟩ ?_
                          refine ro_op (by kernel_rfl) (op_store 9 (.tmp 119) (.tmp 118) 0 2 (S y4003) [.c 0 [I (w64 (bAnd .u8 y2171 31)), I (w64 (y2173)), S y4003] 27, .a (slA 27 e_api_Part A8 c8 x7)] (by kernel_rfl) (by kernel_rfl) (by kernel_rfl) (by kernel_rfl) (ro_fin ?_))
                          refine ro_end (by kernel_rfl) (fin_then ?_)
                          refine fin_join y4003 hres [0, 0] [] (by kernel_rfl) (by kernel_rfl) (by kernel_rfl)
                    · rw [if_neg (eq_f c2789)] at hres
                      refine rn_skip (fin_then ?_)
                      refine fin_join y2175 hres [0, 0] [] (by kernel_rfl) (by kernel_rfl) (by kernel_rfl)
                  · rintro j4307 hres
                    unfold ref08_Split.j4311 at hres
                    refine rn_text ?_
                    refine ro_q 2 [] [0, 5, 120, 121] [(0, S a1), (5, I (w64 (x9 + (w64 (4 + (w64 (4 * (w64 ((w64 ((w64 (y2165)) * 256)) + (w64 (y2167))))))))))), (120, .v (.slice A8 x7.length c8)), (121, .v (.agg #[.int .i64 (w64 (bAnd .u8 y2171 31)), .int .i64 (w64 (y2173)), .string j4307]))] [] (by kernel_rfl) trivial ?_
                    refine ro_op (by kernel_rfl) (op_bslice (E := e_api_Part) 23 27 1 #[(0, (.tmp 121))] 122 [(⟨w64 (bAnd .u8 y2171 31), w64 (y2173), j4307⟩ : S_api_Part)] (by kernel_rfl) (by kernel_rfl) (by kernel_rfl) rfl (by decide) (by kernel_rfl) (fun b4308 => ro_fin ?_))
                    refine bind_elim hres fun y4309 hy4309 hres => ?_
                    refine ro_op (by kernel_rfl) (op_append (E := e_api_Part) (lim := 4398046511104) 23 23 27 (.tmp 120) (.tmp 122) 123 A8 (.slice (some ⟨b4308, 0, none⟩) 1 1) c8 x7 [(⟨w64 (bAnd .u8 y2171 31), w64 (y2173), j4307⟩ : S_api_Part)] ((Try.prog.info? 27).get rfl) (((Try.prog.info? 27).get rfl).zero.get rfl) 2 [.a (slA 27 e_api_Part (some ⟨b4308, 0, none⟩) 1 [(⟨w64 (bAnd .u8 y2171 31), w64 (y2173), j4307⟩ : S_api_Part)]), .c 0 [I (w64 (bAnd .u8 y2171 31)), I (w64 (y2173)), S j4307] 27] (by kernel_rfl) (by kernel_rfl) (by kernel_rfl) (by kernel_rfl) (by kernel_rfl) (by kernel_rfl) (by kernel_rfl) (by kernel_rfl) (by kernel_rfl) (Nat.le_of_ble_eq_true (by kernel_rfl)) (by decide) hy4309 (by kernel_rfl) (ap_sl (e := 27) (E := e_api_Part) (B := (some ⟨b4308, 0, none⟩)) (c := 1) (M := [(⟨w64 (bAnd .u8 y2171 31), w64 (y2173), j4307⟩ : S_api_Part)]) (by kernel_rfl) (by kernel_rfl) (row_at (U := 27) (E := e_api_Part) (A := (some ⟨b4308, 0, none⟩)) (c := 1) (L := [(⟨w64 (bAnd .u8 y2171 31), w64 (y2173), j4307⟩ : S_api_Part)]) 0 (by kernel_rfl))) (fun A4310 k4310 => ro_fin ?_))
                    refine ro_q 1 [] [0, 4, 5] [(0, S a1), (4, .v (.slice A4310 y4309.length k4310)), (5, I (w64 (x9 + (w64 (4 + (w64 (4 * (w64 ((w64 ((w64 (y2165)) * 256)) + (w64 (y2167)))))))))))] [] (by kernel_rfl) trivial ?_
                    refine ro_end (by kernel_rfl) (fin_block (fin_then ?_))
                    refine fin_loop (y4309, w64 (x9 + (w64 (4 + (w64 (4 * (w64 ((w64 ((w64 (y2165)) * 256)) + (w64 (y2167))))))))), A4310, k4310) hres [0] [slA 27 e_api_Part (some ⟨b4308, 0, none⟩) 1 [(⟨w64 (bAnd .u8 y2171 31), w64 (y2173), j4307⟩ : S_api_Part)], cellsA b2177 [.int .i64 (w64 (bAnd .u8 y2171 31)), .int .i64 (w64 (y2173)), .string j4307] 27] (by kernel_rfl) (by kernel_rfl) (by kernel_rfl)
        · rw [if_neg (of_decide_eq_false c2162)] at hres
          refine rn_exit (fin_then_exit (fin_then_exit (fin_block_exit (fin_next ?_))))
          refine rn_seq ?_
          refine rn_q [] [2, 3] [(2, .v (.slice A8 x7.length c8)), (3, I 0)] [] (by kernel_rfl) trivial (fin_next ?_)
          refine rn_ret ?_
          refine fin_ret [.slice A8 x7.length c8, .int .i64 0] (by kernel_rfl) fun w' hw' => ?_
          have hq := Option.some.inj hres
          subst hq
          exact ⟨A8, c8, rfl, hw'.take (L' := [slA 27 e_api_Part A8 c8 x7]) [0] [] (by kernel_rfl)⟩
end Fl
