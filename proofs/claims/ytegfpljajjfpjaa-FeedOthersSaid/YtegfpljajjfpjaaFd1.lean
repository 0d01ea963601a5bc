import Derived.Test.YtegfpljajjfpjaaFwT
import Derived.Test.YtegfpljajjfpjaaProg
import Derived.Test.YtegfpljajjfpjaaFd0
set_option linter.unusedVariables false
set_option maxRecDepth 100000
set_option maxHeartbeats 8000000
namespace Fl
open Go Go.Proofs Fw
/- 24 flywheel/rtcp.part -/
def rtcp_part.j1572 (y11 : Int × S_bits_Reader) (y13 : Int × S_bits_Reader) (y16 : Int × S_bits_Reader) (j1571 : ByteArray) : Option (Except Value (S_api_Part × Int)) :=
  some (.ok ((⟨w64 (y11.1), w64 (y13.1), j1571⟩ : S_api_Part), w64 (4 + (w64 (4 * (w64 (y16.1)))))))
def rtcp_part.j1269 (y11 : Int × S_bits_Reader) (y13 : Int × S_bits_Reader) (y16 : Int × S_bits_Reader) (y641 : ByteArray) (j947 : Int) : Option (Except Value (S_api_Part × Int)) :=
  (bsl y641 0 (w64 ((y641.size : Int) - j947))).bind fun y1267 =>
  rtcp_part.j1572 y11 y13 y16 y1267
def rtcp_part.j1270 (a1 : ByteArray) (y11 : Int × S_bits_Reader) (y13 : Int × S_bits_Reader) (y16 : Int × S_bits_Reader) (y641 : ByteArray) (j947 : Int) : Option (Except Value (S_api_Part × Int)) :=
  (if (w64 (4 + (w64 (4 * (w64 (y16.1)))))) = (a1.size : Int) then (if 4 ≤ j947 then (if (j947.tmod 4) = 0 then (rtcp_want (decide (j947 ≤ (y641.size : Int))) 91).bind fun y952 =>
  onOk y952 (fun v954 => some (.error v954)) fun y953 =>
  rtcp_part.j1269 y11 y13 y16 y641 j947 else (rtcp_want false 91).bind fun y956 =>
  onOk y956 (fun v958 => some (.error v958)) fun y957 =>
  rtcp_part.j1269 y11 y13 y16 y641 j947) else (rtcp_want false 91).bind fun y960 =>
  onOk y960 (fun v962 => some (.error v962)) fun y961 =>
  rtcp_part.j1269 y11 y13 y16 y641 j947) else (rtcp_want false 91).bind fun y964 =>
  onOk y964 (fun v966 => some (.error v966)) fun y965 =>
  rtcp_part.j1269 y11 y13 y16 y641 j947)
def rtcp_part.j1573 (a1 : ByteArray) (y9 : Int × S_bits_Reader) (y11 : Int × S_bits_Reader) (y13 : Int × S_bits_Reader) (y16 : Int × S_bits_Reader) : Option (Except Value (S_api_Part × Int)) :=
  (bsl a1 4 (w64 (4 + (w64 (4 * (w64 (y16.1))))))).bind fun y641 =>
  (if y9.1 = 1 then (if 4 < (w64 (4 + (w64 (4 * (w64 (y16.1)))))) then (bidx a1 (w64 ((w64 (4 + (w64 (4 * (w64 (y16.1)))))) - 1))).bind fun y645 =>
  rtcp_part.j1270 a1 y11 y13 y16 y641 (w64 (y645)) else rtcp_part.j1270 a1 y11 y13 y16 y641 0) else rtcp_part.j1572 y11 y13 y16 y641)
def rtcp_part.j1574 (a1 : ByteArray) (y7 : Int × S_bits_Reader) (y9 : Int × S_bits_Reader) (y11 : Int × S_bits_Reader) (y13 : Int × S_bits_Reader) (y16 : Int × S_bits_Reader) : Option (Except Value (S_api_Part × Int)) :=
  (rtcp_want (y7.1 == 2) 70).bind fun y329 =>
  onOk y329 (fun v331 => some (.error v331)) fun y330 =>
  (if 192 ≤ (w64 (y13.1)) then (rtcp_want (decide ((w64 (y13.1)) ≤ 223)) 81).bind fun y334 =>
  onOk y334 (fun v336 => some (.error v336)) fun y335 =>
  rtcp_part.j1573 a1 y9 y11 y13 y16 else (rtcp_want false 81).bind fun y338 =>
  onOk y338 (fun v340 => some (.error v340)) fun y339 =>
  rtcp_part.j1573 a1 y9 y11 y13 y16)
def rtcp_part (a1 : ByteArray) : Option (Except Value (S_api_Part × Int)) :=
  (bits_Read a1).bind fun y4 =>
  (bits_Reader_Get y4 2).bind fun y7 =>
  (bits_Reader_Get y7.2 1).bind fun y9 =>
  (bits_Reader_Get y9.2 5).bind fun y11 =>
  (bits_Reader_Get y11.2 8).bind fun y13 =>
  (bits_Reader_Get y13.2 16).bind fun y16 =>
  (bits_Reader_Bad y16.2).bind fun y18 =>
  (if y18 = true then (rtcp_want false 60).bind fun y25 =>
  onOk y25 (fun v27 => some (.error v27)) fun y26 =>
  rtcp_part.j1574 a1 y7 y9 y11 y13 y16 else (rtcp_want (decide ((w64 (4 + (w64 (4 * (w64 (y16.1)))))) ≤ (a1.size : Int))) 60).bind fun y21 =>
  onOk y21 (fun v23 => some (.error v23)) fun y22 =>
  rtcp_part.j1574 a1 y7 y9 y11 y13 y16)
theorem rtcp_part_ok {a1 : ByteArray} {r : S_api_Part × Int} (hres : rtcp_part a1 = some (.ok r)) {w0 w : World} {F : List Asn} (hw : SH w0 w (F)) :
    Calls Try.prog 24 #[.string a1] w fun e w' => e = .returned (.tuple #[.agg #[.int .i64 r.1.Count, .int .i64 r.1.Type_, .string r.1.Body], .int .i64 r.2]) ∧ SH w0 w' (F) := by
  refine fw_enter (n := 95) (bs := []) (env := [(0, S a1)]) (H := []) (F := F) Try.func24 rfl (by kernel_rfl) (by kernel_rfl) (by kernel_rfl) (hw.eq (by kernel_rfl)) ?_
  unfold rtcp_part at hres
  refine rn_seq ?_
  refine rn_text ?_
  refine ro_op (by kernel_rfl) (op_alloc 27 2 (.agg #[.int .i64 0, .int .i64 0, .string (⟨#[]⟩ : ByteArray)]) [I 0, I 0, S (⟨#[]⟩ : ByteArray)] (fun b2 => [b2]) (fun b2 => [.c 0 [I 0, I 0, S (⟨#[]⟩ : ByteArray)] 27]) (by kernel_rfl) (by kernel_rfl) (by kernel_rfl) (by kernel_rfl) 0 (fun _ => by kernel_rfl) (fun _ => mt_bs (by kernel_rfl)) (fun _ => by kernel_rfl) (fun b2 => ro_fin ?_))
  refine ro_q 1 [] [0, 2] [(0, S a1), (2, .p 0 0)] [] (by kernel_rfl) trivial ?_
  refine ro_end (by kernel_rfl) (fin_next ?_)
  refine rn_seq ?_
  refine rn_text ?_
  refine ro_q 1 [] [0, 2, 10] [(0, S a1), (2, .p 0 0), (10, S a1)] [] (by kernel_rfl) trivial ?_
  refine bind_elim hres fun y4 hy4 hres => ?_
  refine ro_op (by kernel_rfl) (op_callp (f := 33) (xs := #[(.tmp 10)]) (ats := #[9]) (d := (some 11)) (args := #[.string a1]) (by kernel_rfl) (by kernel_rfl) (by kernel_rfl) (by kernel_rfl) fun w hw => (bits_Read_ok hy4 hw).mono ?_)
  rintro _ w1 ⟨b5, rfl, hw1⟩
  refine ⟨_, [b2, b5], [.a (R_bits_Reader b5 y4), .c 0 [I 0, I 0, S (⟨#[]⟩ : ByteArray)] 27], _, [(11, .p 1 0), (0, S a1), (2, .p 0 0), (10, S a1)], rfl, hw1.eq (by kernel_rfl), rfl, mt_conv (by kernel_rfl) (by kernel_rfl), ro_fin ?_⟩
  refine ro_q 1 [] [0, 2, 4] [(0, S a1), (2, .p 0 0), (4, .p 1 0)] [] (by kernel_rfl) trivial ?_
  refine ro_end (by kernel_rfl) (fin_next ?_)
  refine rn_seq ?_
  refine rn_text ?_
  refine ro_q 1 [] [0, 2, 4, 12] [(0, S a1), (2, .p 0 0), (4, .p 1 0), (12, .p 1 0)] [] (by kernel_rfl) trivial ?_
  refine bind_elim hres fun y7 hy7 hres => ?_
  refine ro_op (by kernel_rfl) (op_call (f := 34) (xs := #[(.tmp 12), (.const (.int .i64 2))]) (ats := #[96, 3]) (d := (some 13)) (args := #[.pointer (some ⟨b5, 0, none⟩), .int .i64 2]) (by kernel_rfl) (by kernel_rfl) (by kernel_rfl) (by kernel_rfl) fun w hw => (bits_Reader_Get_ok (F := [cellsA b2 [.int .i64 0, .int .i64 0, .string (⟨#[]⟩ : ByteArray)] 27] ++ F) hy7 (hw.sel [0] (by kernel_rfl : _ = [R_bits_Reader b5 y4] ++ ([cellsA b2 [.int .i64 0, .int .i64 0, .string (⟨#[]⟩ : ByteArray)] 27] ++ F)))).mono ?_)
  rintro _ w1 ⟨rfl, hw1⟩
  refine ⟨_, [b2, b5], [.a (R_bits_Reader b5 y7.2), .c 0 [I 0, I 0, S (⟨#[]⟩ : ByteArray)] 27], _, rfl, hw1.eq (by kernel_rfl), rfl, mt_same, ro_fin ?_⟩
  refine ro_q 1 [] [0, 2, 4, 13, 14] [(0, S a1), (2, .p 0 0), (4, .p 1 0), (13, U .u32 y7.1), (14, .p 1 0)] [] (by kernel_rfl) trivial ?_
  refine bind_elim hres fun y9 hy9 hres => ?_
  refine ro_op (by kernel_rfl) (op_call (f := 34) (xs := #[(.tmp 14), (.const (.int .i64 1))]) (ats := #[96, 3]) (d := (some 15)) (args := #[.pointer (some ⟨b5, 0, none⟩), .int .i64 1]) (by kernel_rfl) (by kernel_rfl) (by kernel_rfl) (by kernel_rfl) fun w hw => (bits_Reader_Get_ok (F := [cellsA b2 [.int .i64 0, .int .i64 0, .string (⟨#[]⟩ : ByteArray)] 27] ++ F) hy9 (hw.sel [0] (by kernel_rfl : _ = [R_bits_Reader b5 y7.2] ++ ([cellsA b2 [.int .i64 0, .int .i64 0, .string (⟨#[]⟩ : ByteArray)] 27] ++ F)))).mono ?_)
  rintro _ w1 ⟨rfl, hw1⟩
  refine ⟨_, [b2, b5], [.a (R_bits_Reader b5 y9.2), .c 0 [I 0, I 0, S (⟨#[]⟩ : ByteArray)] 27], _, rfl, hw1.eq (by kernel_rfl), rfl, mt_same, ro_fin ?_⟩
  refine ro_q 3 [] [0, 2, 4, 5, 6] [(0, S a1), (2, .p 0 0), (4, .p 1 0), (5, U .u32 y7.1), (6, B (y9.1 == 1))] [] (by kernel_rfl) trivial ?_
  refine ro_end (by kernel_rfl) (fin_next ?_)
  refine rn_seq ?_
  refine rn_text ?_
  refine ro_q 1 [] [0, 2, 4, 5, 6, 17] [(0, S a1), (2, .p 0 0), (4, .p 1 0), (5, U .u32 y7.1), (6, B (y9.1 == 1)), (17, .p 1 0)] [] (by kernel_rfl) trivial ?_
  refine bind_elim hres fun y11 hy11 hres => ?_
  refine ro_op (by kernel_rfl) (op_call (f := 34) (xs := #[(.tmp 17), (.const (.int .i64 5))]) (ats := #[96, 3]) (d := (some 18)) (args := #[.pointer (some ⟨b5, 0, none⟩), .int .i64 5]) (by kernel_rfl) (by kernel_rfl) (by kernel_rfl) (by kernel_rfl) fun w hw => (bits_Reader_Get_ok (F := [cellsA b2 [.int .i64 0, .int .i64 0, .string (⟨#[]⟩ : ByteArray)] 27] ++ F) hy11 (hw.sel [0] (by kernel_rfl : _ = [R_bits_Reader b5 y9.2] ++ ([cellsA b2 [.int .i64 0, .int .i64 0, .string (⟨#[]⟩ : ByteArray)] 27] ++ F)))).mono ?_)
  rintro _ w1 ⟨rfl, hw1⟩
  refine ⟨_, [b2, b5], [.a (R_bits_Reader b5 y11.2), .c 0 [I 0, I 0, S (⟨#[]⟩ : ByteArray)] 27], _, rfl, hw1.eq (by kernel_rfl), rfl, mt_same, ro_fin ?_⟩
  refine ro_q 2 [] [0, 2, 4, 5, 6, 19, 20] [(0, S a1), (2, .p 0 0), (4, .p 1 0), (5, U .u32 y7.1), (6, B (y9.1 == 1)), (19, I (w64 (y11.1))), (20, .p 1 0)] [] (by kernel_rfl) trivial ?_
  refine bind_elim hres fun y13 hy13 hres => ?_
  refine ro_op (by kernel_rfl) (op_call (f := 34) (xs := #[(.tmp 20), (.const (.int .i64 8))]) (ats := #[96, 3]) (d := (some 21)) (args := #[.pointer (some ⟨b5, 0, none⟩), .int .i64 8]) (by kernel_rfl) (by kernel_rfl) (by kernel_rfl) (by kernel_rfl) fun w hw => (bits_Reader_Get_ok (F := [cellsA b2 [.int .i64 0, .int .i64 0, .string (⟨#[]⟩ : ByteArray)] 27] ++ F) hy13 (hw.sel [0] (by kernel_rfl : _ = [R_bits_Reader b5 y11.2] ++ ([cellsA b2 [.int .i64 0, .int .i64 0, .string (⟨#[]⟩ : ByteArray)] 27] ++ F)))).mono ?_)
  rintro _ w1 ⟨rfl, hw1⟩
  refine ⟨_, [b2, b5], [.a (R_bits_Reader b5 y13.2), .c 0 [I 0, I 0, S (⟨#[]⟩ : ByteArray)] 27], _, rfl, hw1.eq (by kernel_rfl), rfl, mt_same, ro_fin ?_⟩
  refine ro_q 2 [] [0, 2, 4, 5, 6, 23] [(0, S a1), (2, .p 0 0), (4, .p 1 0), (5, U .u32 y7.1), (6, B (y9.1 == 1)), (23, .v (.agg #[.int .i64 (w64 (y11.1)), .int .i64 (w64 (y13.1)), .string (⟨#[]⟩ : ByteArray)]))] [] (by kernel_rfl) trivial ?_
  refine ro_op (by kernel_rfl) (op_alloc 27 7 (.agg #[.int .i64 0, .int .i64 0, .string (⟨#[]⟩ : ByteArray)]) [I 0, I 0, S (⟨#[]⟩ : ByteArray)] (fun b14 => [b2, b5, b14]) (fun b14 => [.c 2 [I 0, I 0, S (⟨#[]⟩ : ByteArray)] 27, .a (R_bits_Reader b5 y13.2), .c 0 [I 0, I 0, S (⟨#[]⟩ : ByteArray)] 27]) (by kernel_rfl) (by kernel_rfl) (by kernel_rfl) (by kernel_rfl) 2 (fun _ => by kernel_rfl) (fun _ => mt_bs (by kernel_rfl)) (fun _ => by kernel_rfl) (fun b14 => ro_fin ?_))
  refine ro_op (by kernel_rfl) (op_store 27 (.tmp 7) (.tmp 23) 2 0 (.v (.agg #[.int .i64 (w64 (y11.1)), .int .i64 (w64 (y13.1)), .string (⟨#[]⟩ : ByteArray)])) [.c 2 [I (w64 (y11.1)), I (w64 (y13.1)), S (⟨#[]⟩ : ByteArray)] 27, .a (R_bits_Reader b5 y13.2), .c 0 [I 0, I 0, S (⟨#[]⟩ : ByteArray)] 27] (by kernel_rfl) (by kernel_rfl) (by kernel_rfl) (by kernel_rfl) (ro_fin ?_))
  refine ro_end (by kernel_rfl) (fin_next ?_)
  refine rn_seq ?_
  refine rn_text ?_
  refine ro_q 1 [] [0, 2, 4, 5, 6, 7, 24] [(0, S a1), (2, .p 0 0), (4, .p 1 0), (5, U .u32 y7.1), (6, B (y9.1 == 1)), (7, .p 2 0), (24, .p 1 0)] [] (by kernel_rfl) trivial ?_
  refine bind_elim hres fun y16 hy16 hres => ?_
  refine ro_op (by kernel_rfl) (op_call (f := 34) (xs := #[(.tmp 24), (.const (.int .i64 16))]) (ats := #[96, 3]) (d := (some 25)) (args := #[.pointer (some ⟨b5, 0, none⟩), .int .i64 16]) (by kernel_rfl) (by kernel_rfl) (by kernel_rfl) (by kernel_rfl) fun w hw => (bits_Reader_Get_ok (F := [cellsA b14 [.int .i64 (w64 (y11.1)), .int .i64 (w64 (y13.1)), .string (⟨#[]⟩ : ByteArray)] 27, cellsA b2 [.int .i64 0, .int .i64 0, .string (⟨#[]⟩ : ByteArray)] 27] ++ F) hy16 (hw.sel [1] (by kernel_rfl : _ = [R_bits_Reader b5 y13.2] ++ ([cellsA b14 [.int .i64 (w64 (y11.1)), .int .i64 (w64 (y13.1)), .string (⟨#[]⟩ : ByteArray)] 27, cellsA b2 [.int .i64 0, .int .i64 0, .string (⟨#[]⟩ : ByteArray)] 27] ++ F)))).mono ?_)
  rintro _ w1 ⟨rfl, hw1⟩
  refine ⟨_, [b2, b5, b14], [.a (R_bits_Reader b5 y16.2), .c 2 [I (w64 (y11.1)), I (w64 (y13.1)), S (⟨#[]⟩ : ByteArray)] 27, .c 0 [I 0, I 0, S (⟨#[]⟩ : ByteArray)] 27], _, rfl, hw1.eq (by kernel_rfl), rfl, mt_same, ro_fin ?_⟩
  refine ro_q 4 [] [0, 2, 4, 5, 6, 7, 8] [(0, S a1), (2, .p 0 0), (4, .p 1 0), (5, U .u32 y7.1), (6, B (y9.1 == 1)), (7, .p 2 0), (8, I (w64 (4 + (w64 (4 * (w64 (y16.1)))))))] [] (by kernel_rfl) trivial ?_
  refine ro_end (by kernel_rfl) (fin_next ?_)
  refine rn_join (V := Unit) (J := fun v => rtcp_part.j1574 a1 y7 y9 y11 y13 y16 = some (.ok r)) (sv := fun v => ⟨[b2, 0, b14], [(0, S a1), (2, .p 0 0), (5, U .u32 y7.1), (6, B (y9.1 == 1)), (7, .p 2 0), (8, I (w64 (4 + (w64 (4 * (w64 (y16.1)))))))], [.c 2 [I (w64 (y11.1)), I (w64 (y13.1)), S (⟨#[]⟩ : ByteArray)] 27, .c 0 [I 0, I 0, S (⟨#[]⟩ : ByteArray)] 27]⟩) ?_ ?_
  · refine rn_text ?_
    refine ro_q 1 [] [0, 2, 5, 6, 7, 8, 29] [(0, S a1), (2, .p 0 0), (5, U .u32 y7.1), (6, B (y9.1 == 1)), (7, .p 2 0), (8, I (w64 (4 + (w64 (4 * (w64 (y16.1))))))), (29, .p 1 0)] [] (by kernel_rfl) trivial ?_
    refine bind_elim hres fun y18 hy18 hres => ?_
    refine ro_op (by kernel_rfl) (op_call (f := 35) (xs := #[(.tmp 29)]) (ats := #[96]) (d := (some 30)) (args := #[.pointer (some ⟨b5, 0, none⟩)]) (by kernel_rfl) (by kernel_rfl) (by kernel_rfl) (by kernel_rfl) fun w hw => (bits_Reader_Bad_ok (F := [cellsA b14 [.int .i64 (w64 (y11.1)), .int .i64 (w64 (y13.1)), .string (⟨#[]⟩ : ByteArray)] 27, cellsA b2 [.int .i64 0, .int .i64 0, .string (⟨#[]⟩ : ByteArray)] 27] ++ F) hy18 (hw.sel [0] (by kernel_rfl : _ = [R_bits_Reader b5 y16.2] ++ ([cellsA b14 [.int .i64 (w64 (y11.1)), .int .i64 (w64 (y13.1)), .string (⟨#[]⟩ : ByteArray)] 27, cellsA b2 [.int .i64 0, .int .i64 0, .string (⟨#[]⟩ : ByteArray)] 27] ++ F)))).mono ?_)
    rintro _ w1 ⟨rfl, hw1⟩
    refine ⟨_, [b2, b5, b14], [.a (R_bits_Reader b5 y16.2), .c 2 [I (w64 (y11.1)), I (w64 (y13.1)), S (⟨#[]⟩ : ByteArray)] 27, .c 0 [I 0, I 0, S (⟨#[]⟩ : ByteArray)] 27], _, rfl, hw1.eq (by kernel_rfl), rfl, mt_same, ro_fin ?_⟩
    refine ro_q 2 [] [0, 2, 5, 6, 7, 8, 32] [(0, S a1), (2, .p 0 0), (5, U .u32 y7.1), (6, B (y9.1 == 1)), (7, .p 2 0), (8, I (w64 (4 + (w64 (4 * (w64 (y16.1))))))), (32, B (!y18))] [] (by kernel_rfl) trivial ?_
    refine ro_split 32 (!y18) (by kernel_rfl) (fun c19 => ?_) (fun c19 => ?_)
    · rw [if_neg (nt_of_f (nb_t c19))] at hres
      refine ro_q 5 [] [0, 2, 5, 6, 7, 8, 37] [(0, S a1), (2, .p 0 0), (5, U .u32 y7.1), (6, B (y9.1 == 1)), (7, .p 2 0), (8, I (w64 (4 + (w64 (4 * (w64 (y16.1))))))), (37, B (decide ((w64 (4 + (w64 (4 * (w64 (y16.1)))))) ≤ (a1.size : Int))))] [] (by kernel_rfl) trivial ?_
      refine bind_elim hres fun y21 hy21 hres => ?_
      rcases y21 with v23 | y22
      · dsimp only [onOk] at hres
        cases hres
      · dsimp only [onOk] at hres
        refine ro_op (by kernel_rfl) (op_call (f := 23) (xs := #[(.tmp 37), (.const (.int .i64 60))]) (ats := #[4, 34]) (d := (some 38)) (args := #[.bool (decide ((w64 (4 + (w64 (4 * (w64 (y16.1)))))) ≤ (a1.size : Int))), .int .i64 60]) (by kernel_rfl) (by kernel_rfl) (by kernel_rfl) (by kernel_rfl) fun w hw => (rtcp_want_ok hy21 hw).mono ?_)
        rintro _ w1 ⟨rfl, hw1⟩
        refine ⟨_, [b2, b5, b14], [.a (R_bits_Reader b5 y16.2), .c 2 [I (w64 (y11.1)), I (w64 (y13.1)), S (⟨#[]⟩ : ByteArray)] 27, .c 0 [I 0, I 0, S (⟨#[]⟩ : ByteArray)] 27], _, rfl, hw1.eq (by kernel_rfl), rfl, mt_same, ro_fin ?_⟩
        refine ro_end (by kernel_rfl) (fin_then ?_)
        refine fin_join () hres [1, 1] [R_bits_Reader b5 y16.2] (by kernel_rfl) (by kernel_rfl) (by kernel_rfl)
    · rw [if_pos ((nb_f c19))] at hres
      refine ro_q 5 [] [0, 2, 5, 6, 7, 8, 37] [(0, S a1), (2, .p 0 0), (5, U .u32 y7.1), (6, B (y9.1 == 1)), (7, .p 2 0), (8, I (w64 (4 + (w64 (4 * (w64 (y16.1))))))), (37, B false)] [] (by kernel_rfl) trivial ?_
      refine bind_elim hres fun y25 hy25 hres => ?_
      rcases y25 with v27 | y26
      · dsimp only [onOk] at hres
        cases hres
      · dsimp only [onOk] at hres
        refine ro_op (by kernel_rfl) (op_call (f := 23) (xs := #[(.tmp 37), (.const (.int .i64 60))]) (ats := #[4, 34]) (d := (some 38)) (args := #[.bool false, .int .i64 60]) (by kernel_rfl) (by kernel_rfl) (by kernel_rfl) (by kernel_rfl) fun w hw => (rtcp_want_ok hy25 hw).mono ?_)
        rintro _ w1 ⟨rfl, hw1⟩
        refine ⟨_, [b2, b5, b14], [.a (R_bits_Reader b5 y16.2), .c 2 [I (w64 (y11.1)), I (w64 (y13.1)), S (⟨#[]⟩ : ByteArray)] 27, .c 0 [I 0, I 0, S (⟨#[]⟩ : ByteArray)] 27], _, rfl, hw1.eq (by kernel_rfl), rfl, mt_same, ro_fin ?_⟩
        refine ro_end (by kernel_rfl) (fin_then ?_)
        refine fin_join () hres [1, 1] [R_bits_Reader b5 y16.2] (by kernel_rfl) (by kernel_rfl) (by kernel_rfl)
  · rintro ⟨⟩ hres
    unfold rtcp_part.j1574 at hres
    refine rn_seq ?_
    refine rn_text ?_
    refine ro_q 2 [] [0, 2, 6, 7, 8, 40] [(0, S a1), (2, .p 0 0), (6, B (y9.1 == 1)), (7, .p 2 0), (8, I (w64 (4 + (w64 (4 * (w64 (y16.1))))))), (40, B (y7.1 == 2))] [] (by kernel_rfl) trivial ?_
    refine bind_elim hres fun y329 hy329 hres => ?_
    rcases y329 with v331 | y330
    · dsimp only [onOk] at hres
      cases hres
    · dsimp only [onOk] at hres
      refine ro_op (by kernel_rfl) (op_call (f := 23) (xs := #[(.tmp 40), (.const (.int .i64 70))]) (ats := #[4, 34]) (d := (some 41)) (args := #[.bool (y7.1 == 2), .int .i64 70]) (by kernel_rfl) (by kernel_rfl) (by kernel_rfl) (by kernel_rfl) fun w hw => (rtcp_want_ok hy329 hw).mono ?_)
      rintro _ w1 ⟨rfl, hw1⟩
      refine ⟨_, [b2, 0, b14], [.c 2 [I (w64 (y11.1)), I (w64 (y13.1)), S (⟨#[]⟩ : ByteArray)] 27, .c 0 [I 0, I 0, S (⟨#[]⟩ : ByteArray)] 27], _, rfl, hw1.eq (by kernel_rfl), rfl, mt_same, ro_fin ?_⟩
      refine ro_end (by kernel_rfl) (fin_next ?_)
      refine rn_join (V := Unit) (J := fun v => rtcp_part.j1573 a1 y9 y11 y13 y16 = some (.ok r)) (sv := fun v => ⟨[b2, 0, b14], [(0, S a1), (2, .p 0 0), (6, B (y9.1 == 1)), (7, .p 2 0), (8, I (w64 (4 + (w64 (4 * (w64 (y16.1)))))))], [.c 2 [I (w64 (y11.1)), I (w64 (y13.1)), S (⟨#[]⟩ : ByteArray)] 27, .c 0 [I 0, I 0, S (⟨#[]⟩ : ByteArray)] 27]⟩) ?_ ?_
      · refine rn_text ?_
        refine ro_q 4 [] [0, 2, 6, 7, 8, 45] [(0, S a1), (2, .p 0 0), (6, B (y9.1 == 1)), (7, .p 2 0), (8, I (w64 (4 + (w64 (4 * (w64 (y16.1))))))), (45, B (decide (192 ≤ (w64 (y13.1)))))] [] (by kernel_rfl) trivial ?_
        refine ro_split 45 (decide (192 ≤ (w64 (y13.1)))) (by kernel_rfl) (fun c332 => ?_) (fun c332 => ?_)
        · rw [if_pos (of_decide_eq_true c332)] at hres
          refine ro_q 4 [] [0, 2, 6, 7, 8, 49] [(0, S a1), (2, .p 0 0), (6, B (y9.1 == 1)), (7, .p 2 0), (8, I (w64 (4 + (w64 (4 * (w64 (y16.1))))))), (49, B (decide ((w64 (y13.1)) ≤ 223)))] [] (by kernel_rfl) trivial ?_
          refine bind_elim hres fun y334 hy334 hres => ?_
          rcases y334 with v336 | y335
          · dsimp only [onOk] at hres
            cases hres
          · dsimp only [onOk] at hres
            refine ro_op (by kernel_rfl) (op_call (f := 23) (xs := #[(.tmp 49), (.const (.int .i64 81))]) (ats := #[4, 34]) (d := (some 50)) (args := #[.bool (decide ((w64 (y13.1)) ≤ 223)), .int .i64 81]) (by kernel_rfl) (by kernel_rfl) (by kernel_rfl) (by kernel_rfl) fun w hw => (rtcp_want_ok hy334 hw).mono ?_)
            rintro _ w1 ⟨rfl, hw1⟩
            refine ⟨_, [b2, 0, b14], [.c 2 [I (w64 (y11.1)), I (w64 (y13.1)), S (⟨#[]⟩ : ByteArray)] 27, .c 0 [I 0, I 0, S (⟨#[]⟩ : ByteArray)] 27], _, rfl, hw1.eq (by kernel_rfl), rfl, mt_same, ro_fin ?_⟩
            refine ro_end (by kernel_rfl) (fin_then ?_)
            refine fin_join () hres [0, 0] [] (by kernel_rfl) (by kernel_rfl) (by kernel_rfl)
        · rw [if_neg (of_decide_eq_false c332)] at hres
          refine ro_q 4 [] [0, 2, 6, 7, 8, 49] [(0, S a1), (2, .p 0 0), (6, B (y9.1 == 1)), (7, .p 2 0), (8, I (w64 (4 + (w64 (4 * (w64 (y16.1))))))), (49, B false)] [] (by kernel_rfl) trivial ?_
          refine bind_elim hres fun y338 hy338 hres => ?_
          rcases y338 with v340 | y339
          · dsimp only [onOk] at hres
            cases hres
          · dsimp only [onOk] at hres
            refine ro_op (by kernel_rfl) (op_call (f := 23) (xs := #[(.tmp 49), (.const (.int .i64 81))]) (ats := #[4, 34]) (d := (some 50)) (args := #[.bool false, .int .i64 81]) (by kernel_rfl) (by kernel_rfl) (by kernel_rfl) (by kernel_rfl) fun w hw => (rtcp_want_ok hy338 hw).mono ?_)
            rintro _ w1 ⟨rfl, hw1⟩
            refine ⟨_, [b2, 0, b14], [.c 2 [I (w64 (y11.1)), I (w64 (y13.1)), S (⟨#[]⟩ : ByteArray)] 27, .c 0 [I 0, I 0, S (⟨#[]⟩ : ByteArray)] 27], _, rfl, hw1.eq (by kernel_rfl), rfl, mt_same, ro_fin ?_⟩
            refine ro_end (by kernel_rfl) (fin_then ?_)
            refine fin_join () hres [0, 0] [] (by kernel_rfl) (by kernel_rfl) (by kernel_rfl)
      · rintro ⟨⟩ hres
        unfold rtcp_part.j1573 at hres
        refine rn_seq ?_
        refine bind_elim hres fun y641 hy642 hres => ?_
        refine rn_text ?_
        refine ro_q 4 [(2, S y641)] [0, 2, 6, 7, 8, 53, 54] [(0, S a1), (2, .p 0 0), (6, B (y9.1 == 1)), (7, .p 2 0), (8, I (w64 (4 + (w64 (4 * (w64 (y16.1))))))), (53, S y641), (54, .p 2 2)] [(smSl 9 (.string a1) (some (.int .i64 4)) (some (.int .i64 (w64 (4 + (w64 (4 * (w64 (y16.1)))))))) none, .string y641)] (by kernel_rfl) ⟨ob_bslLH (by kernel_rfl) hy642, trivial⟩ ?_
        refine ro_op (by kernel_rfl) (op_store 9 (.tmp 54) (.tmp 53) 2 2 (S y641) [.c 2 [I (w64 (y11.1)), I (w64 (y13.1)), S y641] 27, .c 0 [I 0, I 0, S (⟨#[]⟩ : ByteArray)] 27] (by kernel_rfl) (by kernel_rfl) (by kernel_rfl) (by kernel_rfl) (ro_fin ?_))
        refine ro_end (by kernel_rfl) (fin_next ?_)
        refine rn_join (V := ByteArray) (J := fun v => rtcp_part.j1572 y11 y13 y16 v = some (.ok r)) (sv := fun v => ⟨[b2, 0, b14], [(2, .p 0 0), (7, .p 2 0), (8, I (w64 (4 + (w64 (4 * (w64 (y16.1)))))))], [.c 2 [I (w64 (y11.1)), I (w64 (y13.1)), S v] 27, .c 0 [I 0, I 0, S (⟨#[]⟩ : ByteArray)] 27]⟩) ?_ ?_
        · refine rn_seq ?_
          refine rn_q [] [0, 2, 7, 8, 55] [(0, S a1), (2, .p 0 0), (7, .p 2 0), (8, I (w64 (4 + (w64 (4 * (w64 (y16.1))))))), (55, B (y9.1 == 1))] [] (by kernel_rfl) trivial (fin_next ?_)
          refine rn_cond (y9.1 == 1) (by kernel_rfl) (fun c643 => ?_) (fun c643 => ?_)
          · rw [if_pos (eq_t c643)] at hres
            refine rn_seq ?_
            refine rn_q [] [0, 2, 7, 8, 9] [(0, S a1), (2, .p 0 0), (7, .p 2 0), (8, I (w64 (4 + (w64 (4 * (w64 (y16.1))))))), (9, I 0)] [] (by kernel_rfl) trivial (fin_next ?_)
            refine rn_join (V := Int) (J := fun v => rtcp_part.j1270 a1 y11 y13 y16 y641 v = some (.ok r)) (sv := fun v => ⟨[b2, 0, b14], [(0, S a1), (2, .p 0 0), (7, .p 2 0), (8, I (w64 (4 + (w64 (4 * (w64 (y16.1))))))), (9, I v)], [.c 2 [I (w64 (y11.1)), I (w64 (y13.1)), S y641] 27, .c 0 [I 0, I 0, S (⟨#[]⟩ : ByteArray)] 27]⟩) ?_ ?_
            · refine rn_seq ?_
              refine rn_q [] [0, 2, 7, 8, 9, 57] [(0, S a1), (2, .p 0 0), (7, .p 2 0), (8, I (w64 (4 + (w64 (4 * (w64 (y16.1))))))), (9, I 0), (57, B (decide (4 < (w64 (4 + (w64 (4 * (w64 (y16.1)))))))))] [] (by kernel_rfl) trivial (fin_next ?_)
              refine rn_cond (decide (4 < (w64 (4 + (w64 (4 * (w64 (y16.1)))))))) (by kernel_rfl) (fun c644 => ?_) (fun c644 => ?_)
              · rw [if_pos (of_decide_eq_true c644)] at hres
                refine bind_elim hres fun y645 hy646 hres => ?_
                refine rn_q [(3, U .u8 y645)] [0, 2, 7, 8, 9] [(0, S a1), (2, .p 0 0), (7, .p 2 0), (8, I (w64 (4 + (w64 (4 * (w64 (y16.1))))))), (9, I (w64 (y645)))] [(smIx 9 (.string a1) (.int .i64 (w64 ((w64 (4 + (w64 (4 * (w64 (y16.1)))))) - 1))), .int .u8 y645)] (by kernel_rfl) ⟨ob_bidx (by kernel_rfl) hy646, trivial⟩ (fin_then ?_)
                refine fin_join (w64 (y645)) hres [0, 0] [] (by kernel_rfl) (by kernel_rfl) (by kernel_rfl)
              · rw [if_neg (of_decide_eq_false c644)] at hres
                refine rn_skip (fin_then ?_)
                refine fin_join 0 hres [0, 0] [] (by kernel_rfl) (by kernel_rfl) (by kernel_rfl)
            · rintro j947 hres
              unfold rtcp_part.j1270 at hres
              refine rn_join (V := Unit) (J := fun v => rtcp_part.j1269 y11 y13 y16 y641 j947 = some (.ok r)) (sv := fun v => ⟨[b2, 0, b14], [(2, .p 0 0), (7, .p 2 0), (8, I (w64 (4 + (w64 (4 * (w64 (y16.1))))))), (9, I j947)], [.c 2 [I (w64 (y11.1)), I (w64 (y13.1)), S y641] 27, .c 0 [I 0, I 0, S (⟨#[]⟩ : ByteArray)] 27]⟩) ?_ ?_
              · refine rn_text ?_
                refine ro_q 5 [] [2, 7, 8, 9, 67] [(2, .p 0 0), (7, .p 2 0), (8, I (w64 (4 + (w64 (4 * (w64 (y16.1))))))), (9, I j947), (67, B ((w64 (4 + (w64 (4 * (w64 (y16.1)))))) == (a1.size : Int)))] [] (by kernel_rfl) trivial ?_
                refine ro_split 67 ((w64 (4 + (w64 (4 * (w64 (y16.1)))))) == (a1.size : Int)) (by kernel_rfl) (fun c948 => ?_) (fun c948 => ?_)
                · rw [if_pos (eq_t c948)] at hres
                  refine ro_q 4 [] [2, 7, 8, 9, 71] [(2, .p 0 0), (7, .p 2 0), (8, I (w64 (4 + (w64 (4 * (w64 (y16.1))))))), (9, I j947), (71, B (decide (4 ≤ j947)))] [] (by kernel_rfl) trivial ?_
                  refine ro_split 71 (decide (4 ≤ j947)) (by kernel_rfl) (fun c949 => ?_) (fun c949 => ?_)
                  · rw [if_pos (of_decide_eq_true c949)] at hres
                    refine ro_q 5 [] [2, 7, 8, 9, 76] [(2, .p 0 0), (7, .p 2 0), (8, I (w64 (4 + (w64 (4 * (w64 (y16.1))))))), (9, I j947), (76, B ((j947.tmod 4) == 0))] [] (by kernel_rfl) trivial ?_
                    refine ro_split 76 ((j947.tmod 4) == 0) (by kernel_rfl) (fun c950 => ?_) (fun c950 => ?_)
                    · rw [if_pos (eq_t c950)] at hres
                      refine ro_q 6 [] [2, 7, 8, 9, 82] [(2, .p 0 0), (7, .p 2 0), (8, I (w64 (4 + (w64 (4 * (w64 (y16.1))))))), (9, I j947), (82, B (decide (j947 ≤ (y641.size : Int))))] [] (by kernel_rfl) trivial ?_
                      refine bind_elim hres fun y952 hy952 hres => ?_
                      rcases y952 with v954 | y953
                      · dsimp only [onOk] at hres
                        cases hres
                      · dsimp only [onOk] at hres
                        refine ro_op (by kernel_rfl) (op_call (f := 23) (xs := #[(.tmp 82), (.const (.int .i64 91))]) (ats := #[4, 34]) (d := (some 83)) (args := #[.bool (decide (j947 ≤ (y641.size : Int))), .int .i64 91]) (by kernel_rfl) (by kernel_rfl) (by kernel_rfl) (by kernel_rfl) fun w hw => (rtcp_want_ok hy952 hw).mono ?_)
                        rintro _ w1 ⟨rfl, hw1⟩
                        refine ⟨_, [b2, 0, b14], [.c 2 [I (w64 (y11.1)), I (w64 (y13.1)), S y641] 27, .c 0 [I 0, I 0, S (⟨#[]⟩ : ByteArray)] 27], _, rfl, hw1.eq (by kernel_rfl), rfl, mt_same, ro_fin ?_⟩
                        refine ro_end (by kernel_rfl) (fin_then ?_)
                        refine fin_join () hres [0, 0] [] (by kernel_rfl) (by kernel_rfl) (by kernel_rfl)
                    · rw [if_neg (eq_f c950)] at hres
                      refine ro_q 6 [] [2, 7, 8, 9, 82] [(2, .p 0 0), (7, .p 2 0), (8, I (w64 (4 + (w64 (4 * (w64 (y16.1))))))), (9, I j947), (82, B false)] [] (by kernel_rfl) trivial ?_
                      refine bind_elim hres fun y956 hy956 hres => ?_
                      rcases y956 with v958 | y957
                      · dsimp only [onOk] at hres
                        cases hres
                      · dsimp only [onOk] at hres
                        refine ro_op (by kernel_rfl) (op_call (f := 23) (xs := #[(.tmp 82), (.const (.int .i64 91))]) (ats := #[4, 34]) (d := (some 83)) (args := #[.bool false, .int .i64 91]) (by kernel_rfl) (by kernel_rfl) (by kernel_rfl) (by kernel_rfl) fun w hw => (rtcp_want_ok hy956 hw).mono ?_)
                        rintro _ w1 ⟨rfl, hw1⟩
                        refine ⟨_, [b2, 0, b14], [.c 2 [I (w64 (y11.1)), I (w64 (y13.1)), S y641] 27, .c 0 [I 0, I 0, S (⟨#[]⟩ : ByteArray)] 27], _, rfl, hw1.eq (by kernel_rfl), rfl, mt_same, ro_fin ?_⟩
                        refine ro_end (by kernel_rfl) (fin_then ?_)
                        refine fin_join () hres [0, 0] [] (by kernel_rfl) (by kernel_rfl) (by kernel_rfl)
                  · rw [if_neg (of_decide_eq_false c949)] at hres
                    refine ro_q 11 [] [2, 7, 8, 9, 82] [(2, .p 0 0), (7, .p 2 0), (8, I (w64 (4 + (w64 (4 * (w64 (y16.1))))))), (9, I j947), (82, B false)] [] (by kernel_rfl) trivial ?_
                    refine bind_elim hres fun y960 hy960 hres => ?_
                    rcases y960 with v962 | y961
                    · dsimp only [onOk] at hres
                      cases hres
                    · dsimp only [onOk] at hres
                      refine ro_op (by kernel_rfl) (op_call (f := 23) (xs := #[(.tmp 82), (.const (.int .i64 91))]) (ats := #[4, 34]) (d := (some 83)) (args := #[.bool false, .int .i64 91]) (by kernel_rfl) (by kernel_rfl) (by kernel_rfl) (by kernel_rfl) fun w hw => (rtcp_want_ok hy960 hw).mono ?_)
                      rintro _ w1 ⟨rfl, hw1⟩
                      refine ⟨_, [b2, 0, b14], [.c 2 [I (w64 (y11.1)), I (w64 (y13.1)), S y641] 27, .c 0 [I 0, I 0, S (⟨#[]⟩ : ByteArray)] 27], _, rfl, hw1.eq (by kernel_rfl), rfl, mt_same, ro_fin ?_⟩
                      refine ro_end (by kernel_rfl) (fin_then ?_)
                      refine fin_join () hres [0, 0] [] (by kernel_rfl) (by kernel_rfl) (by kernel_rfl)
                · rw [if_neg (eq_f c948)] at hres
                  refine ro_q 15 [] [2, 7, 8, 9, 82] [(2, .p 0 0), (7, .p 2 0), (8, I (w64 (4 + (w64 (4 * (w64 (y16.1))))))), (9, I j947), (82, B false)] [] (by kernel_rfl) trivial ?_
                  refine bind_elim hres fun y964 hy964 hres => ?_
                  rcases y964 with v966 | y965
                  · dsimp only [onOk] at hres
                    cases hres
                  · dsimp only [onOk] at hres
                    refine ro_op (by kernel_rfl) (op_call (f := 23) (xs := #[(.tmp 82), (.const (.int .i64 91))]) (ats := #[4, 34]) (d := (some 83)) (args := #[.bool false, .int .i64 91]) (by kernel_rfl) (by kernel_rfl) (by kernel_rfl) (by kernel_rfl) fun w hw => (rtcp_want_ok hy964 hw).mono ?_)
                    rintro _ w1 ⟨rfl, hw1⟩
                    refine ⟨_, [b2, 0, b14], [.c 2 [I (w64 (y11.1)), I (w64 (y13.1)), S y641] 27, .c 0 [I 0, I 0, S (⟨#[]⟩ : ByteArray)] 27], _, rfl, hw1.eq (by kernel_rfl), rfl, mt_same, ro_fin ?_⟩
                    refine ro_end (by kernel_rfl) (fin_then ?_)
                    refine fin_join () hres [0, 0] [] (by kernel_rfl) (by kernel_rfl) (by kernel_rfl)
              · rintro ⟨⟩ hres
                unfold rtcp_part.j1269 at hres
                refine bind_elim hres fun y1267 hy1268 hres => ?_
                refine rn_text ?_
                refine ro_q 9 [(7, S y1267)] [2, 7, 8, 91, 92] [(2, .p 0 0), (7, .p 2 0), (8, I (w64 (4 + (w64 (4 * (w64 (y16.1))))))), (91, S y1267), (92, .p 2 2)] [(smSl 9 (.string y641) none (some (.int .i64 (w64 ((y641.size : Int) - j947)))) none, .string y1267)] (by kernel_rfl) ⟨ob_bslH (by kernel_rfl) hy1268, trivial⟩ ?_
                refine ro_op (by kernel_rfl) (op_store 9 (.tmp 92) (.tmp 91) 2 2 (S y1267) [.c 2 [I (w64 (y11.1)), I (w64 (y13.1)), S y1267] 27, .c 0 [I 0, I 0, S (⟨#[]⟩ : ByteArray)] 27] (by kernel_rfl) (by kernel_rfl) (by kernel_rfl) (by kernel_rfl) (ro_fin ?_))
                refine ro_end (by kernel_rfl) (fin_then ?_)
                refine fin_join y1267 hres [0, 0] [] (by kernel_rfl) (by kernel_rfl) (by kernel_rfl)
          · rw [if_neg (eq_f c643)] at hres
            refine rn_skip (fin_then ?_)
            refine fin_join y641 hres [0, 0] [] (by kernel_rfl) (by kernel_rfl) (by kernel_rfl)
        · rintro j1571 hres
          unfold rtcp_part.j1572 at hres
          refine rn_seq ?_
          refine rn_text ?_
          refine ro_q 2 [] [2, 93, 94] [(2, .p 0 0), (93, .v (.agg #[.int .i64 (w64 (y11.1)), .int .i64 (w64 (y13.1)), .string j1571])), (94, I (w64 (4 + (w64 (4 * (w64 (y16.1)))))))] [] (by kernel_rfl) trivial ?_
          refine ro_op (by kernel_rfl) (op_store 27 (.tmp 2) (.tmp 93) 0 0 (.v (.agg #[.int .i64 (w64 (y11.1)), .int .i64 (w64 (y13.1)), .string j1571])) [.c 2 [I (w64 (y11.1)), I (w64 (y13.1)), S j1571] 27, .c 0 [I (w64 (y11.1)), I (w64 (y13.1)), S j1571] 27] (by kernel_rfl) (by kernel_rfl) (by kernel_rfl) (by kernel_rfl) (ro_fin ?_))
          refine ro_q 1 [] [2, 3] [(2, .p 0 0), (3, I (w64 (4 + (w64 (4 * (w64 (y16.1)))))))] [] (by kernel_rfl) trivial ?_
          refine ro_end (by kernel_rfl) (fin_next ?_)
          refine rn_ret ?_
          refine fin_ret [.agg #[.int .i64 (w64 (y11.1)), .int .i64 (w64 (y13.1)), .string j1571], .int .i64 (w64 (4 + (w64 (4 * (w64 (y16.1))))))] (by kernel_rfl) fun w' hw' => ?_
          have hq := Except.ok.inj (Option.some.inj hres)
          subst hq
          exact ⟨rfl, hw'.drop⟩
theorem rtcp_part_err {a1 : ByteArray} {r : Value} (hres : rtcp_part a1 = some (.error r)) {w0 w : World} {F : List Asn} (hw : SH w0 w (F)) :
    Calls Try.prog 24 #[.string a1] w fun e w' => e = .panicked [{ v := r, recovered := false }] ∧ SH w0 w' F := by
  refine fw_enter (n := 95) (bs := []) (env := [(0, S a1)]) (H := []) (F := F) Try.func24 rfl (by kernel_rfl) (by kernel_rfl) (by kernel_rfl) (hw.eq (by kernel_rfl)) ?_
  unfold rtcp_part at hres
  refine rn_seq ?_
  refine rn_text ?_
  refine ro_op (by kernel_rfl) (op_alloc 27 2 (.agg #[.int .i64 0, .int .i64 0, .string (⟨#[]⟩ : ByteArray)]) [I 0, I 0, S (⟨#[]⟩ : ByteArray)] (fun b2 => [b2]) (fun b2 => [.c 0 [I 0, I 0, S (⟨#[]⟩ : ByteArray)] 27]) (by kernel_rfl) (by kernel_rfl) (by kernel_rfl) (by kernel_rfl) 0 (fun _ => by kernel_rfl) (fun _ => mt_bs (by kernel_rfl)) (fun _ => by kernel_rfl) (fun b2 => ro_fin ?_))
  refine ro_q 1 [] [0, 2] [(0, S a1), (2, .p 0 0)] [] (by kernel_rfl) trivial ?_
  refine ro_end (by kernel_rfl) (fin_next ?_)
  refine rn_seq ?_
  refine rn_text ?_
  refine ro_q 1 [] [0, 2, 10] [(0, S a1), (2, .p 0 0), (10, S a1)] [] (by kernel_rfl) trivial ?_
  refine bind_elim hres fun y4 hy4 hres => ?_
  refine ro_op (by kernel_rfl) (op_callp (f := 33) (xs := #[(.tmp 10)]) (ats := #[9]) (d := (some 11)) (args := #[.string a1]) (by kernel_rfl) (by kernel_rfl) (by kernel_rfl) (by kernel_rfl) fun w hw => (bits_Read_ok hy4 hw).mono ?_)
  rintro _ w1 ⟨b5, rfl, hw1⟩
  refine ⟨_, [b2, b5], [.a (R_bits_Reader b5 y4), .c 0 [I 0, I 0, S (⟨#[]⟩ : ByteArray)] 27], _, [(11, .p 1 0), (0, S a1), (2, .p 0 0), (10, S a1)], rfl, hw1.eq (by kernel_rfl), rfl, mt_conv (by kernel_rfl) (by kernel_rfl), ro_fin ?_⟩
  refine ro_q 1 [] [0, 2, 4] [(0, S a1), (2, .p 0 0), (4, .p 1 0)] [] (by kernel_rfl) trivial ?_
  refine ro_end (by kernel_rfl) (fin_next ?_)
  refine rn_seq ?_
  refine rn_text ?_
  refine ro_q 1 [] [0, 2, 4, 12] [(0, S a1), (2, .p 0 0), (4, .p 1 0), (12, .p 1 0)] [] (by kernel_rfl) trivial ?_
  refine bind_elim hres fun y7 hy7 hres => ?_
  refine ro_op (by kernel_rfl) (op_call (f := 34) (xs := #[(.tmp 12), (.const (.int .i64 2))]) (ats := #[96, 3]) (d := (some 13)) (args := #[.pointer (some ⟨b5, 0, none⟩), .int .i64 2]) (by kernel_rfl) (by kernel_rfl) (by kernel_rfl) (by kernel_rfl) fun w hw => (bits_Reader_Get_ok (F := [cellsA b2 [.int .i64 0, .int .i64 0, .string (⟨#[]⟩ : ByteArray)] 27] ++ F) hy7 (hw.sel [0] (by kernel_rfl : _ = [R_bits_Reader b5 y4] ++ ([cellsA b2 [.int .i64 0, .int .i64 0, .string (⟨#[]⟩ : ByteArray)] 27] ++ F)))).mono ?_)
  rintro _ w1 ⟨rfl, hw1⟩
  refine ⟨_, [b2, b5], [.a (R_bits_Reader b5 y7.2), .c 0 [I 0, I 0, S (⟨#[]⟩ : ByteArray)] 27], _, rfl, hw1.eq (by kernel_rfl), rfl, mt_same, ro_fin ?_⟩
  refine ro_q 1 [] [0, 2, 4, 13, 14] [(0, S a1), (2, .p 0 0), (4, .p 1 0), (13, U .u32 y7.1), (14, .p 1 0)] [] (by kernel_rfl) trivial ?_
  refine bind_elim hres fun y9 hy9 hres => ?_
  refine ro_op (by kernel_rfl) (op_call (f := 34) (xs := #[(.tmp 14), (.const (.int .i64 1))]) (ats := #[96, 3]) (d := (some 15)) (args := #[.pointer (some ⟨b5, 0, none⟩), .int .i64 1]) (by kernel_rfl) (by kernel_rfl) (by kernel_rfl) (by kernel_rfl) fun w hw => (bits_Reader_Get_ok (F := [cellsA b2 [.int .i64 0, .int .i64 0, .string (⟨#[]⟩ : ByteArray)] 27] ++ F) hy9 (hw.sel [0] (by kernel_rfl : _ = [R_bits_Reader b5 y7.2] ++ ([cellsA b2 [.int .i64 0, .int .i64 0, .string (⟨#[]⟩ : ByteArray)] 27] ++ F)))).mono ?_)
  rintro _ w1 ⟨rfl, hw1⟩
  refine ⟨_, [b2, b5], [.a (R_bits_Reader b5 y9.2), .c 0 [I 0, I 0, S (⟨#[]⟩ : ByteArray)] 27], _, rfl, hw1.eq (by kernel_rfl), rfl, mt_same, ro_fin ?_⟩
  refine ro_q 3 [] [0, 2, 4, 5, 6] [(0, S a1), (2, .p 0 0), (4, .p 1 0), (5, U .u32 y7.1), (6, B (y9.1 == 1))] [] (by kernel_rfl) trivial ?_
  refine ro_end (by kernel_rfl) (fin_next ?_)
  refine rn_seq ?_
  refine rn_text ?_
  refine ro_q 1 [] [0, 2, 4, 5, 6, 17] [(0, S a1), (2, .p 0 0), (4, .p 1 0), (5, U .u32 y7.1), (6, B (y9.1 == 1)), (17, .p 1 0)] [] (by kernel_rfl) trivial ?_
  refine bind_elim hres fun y11 hy11 hres => ?_
  refine ro_op (by kernel_rfl) (op_call (f := 34) (xs := #[(.tmp 17), (.const (.int .i64 5))]) (ats := #[96, 3]) (d := (some 18)) (args := #[.pointer (some ⟨b5, 0, none⟩), .int .i64 5]) (by kernel_rfl) (by kernel_rfl) (by kernel_rfl) (by kernel_rfl) fun w hw => (bits_Reader_Get_ok (F := [cellsA b2 [.int .i64 0, .int .i64 0, .string (⟨#[]⟩ : ByteArray)] 27] ++ F) hy11 (hw.sel [0] (by kernel_rfl : _ = [R_bits_Reader b5 y9.2] ++ ([cellsA b2 [.int .i64 0, .int .i64 0, .string (⟨#[]⟩ : ByteArray)] 27] ++ F)))).mono ?_)
  rintro _ w1 ⟨rfl, hw1⟩
  refine ⟨_, [b2, b5], [.a (R_bits_Reader b5 y11.2), .c 0 [I 0, I 0, S (⟨#[]⟩ : ByteArray)] 27], _, rfl, hw1.eq (by kernel_rfl), rfl, mt_same, ro_fin ?_⟩
  refine ro_q 2 [] [0, 2, 4, 5, 6, 19, 20] [(0, S a1), (2, .p 0 0), (4, .p 1 0), (5, U .u32 y7.1), (6, B (y9.1 == 1)), (19, I (w64 (y11.1))), (20, .p 1 0)] [] (by kernel_rfl) trivial ?_
  refine bind_elim hres fun y13 hy13 hres => ?_
  refine ro_op (by kernel_rfl) (op_call (f := 34) (xs := #[(.tmp 20), (.const (.int .i64 8))]) (ats := #[96, 3]) (d := (some 21)) (args := #[.pointer (some ⟨b5, 0, none⟩), .int .i64 8]) (by kernel_rfl) (by kernel_rfl) (by kernel_rfl) (by kernel_rfl) fun w hw => (bits_Reader_Get_ok (F := [cellsA b2 [.int .i64 0, .int .i64 0, .string (⟨#[]⟩ : ByteArray)] 27] ++ F) hy13 (hw.sel [0] (by kernel_rfl : _ = [R_bits_Reader b5 y11.2] ++ ([cellsA b2 [.int .i64 0, .int .i64 0, .string (⟨#[]⟩ : ByteArray)] 27] ++ F)))).mono ?_)
  rintro _ w1 ⟨rfl, hw1⟩
  refine ⟨_, [b2, b5], [.a (R_bits_Reader b5 y13.2), .c 0 [I 0, I 0, S (⟨#[]⟩ : ByteArray)] 27], _, rfl, hw1.eq (by kernel_rfl), rfl, mt_same, ro_fin ?_⟩
  refine ro_q 2 [] [0, 2, 4, 5, 6, 23] [(0, S a1), (2, .p 0 0), (4, .p 1 0), (5, U .u32 y7.1), (6, B (y9.1 == 1)), (23, .v (.agg #[.int .i64 (w64 (y11.1)), .int .i64 (w64 (y13.1)), .string (⟨#[]⟩ : ByteArray)]))] [] (by kernel_rfl) trivial ?_
  refine ro_op (by kernel_rfl) (op_alloc 27 7 (.agg #[.int .i64 0, .int .i64 0, .string (⟨#[]⟩ : ByteArray)]) [I 0, I 0, S (⟨#[]⟩ : ByteArray)] (fun b14 => [b2, b5, b14]) (fun b14 => [.c 2 [I 0, I 0, S (⟨#[]⟩ : ByteArray)] 27, .a (R_bits_Reader b5 y13.2), .c 0 [I 0, I 0, S (⟨#[]⟩ : ByteArray)] 27]) (by kernel_rfl) (by kernel_rfl) (by kernel_rfl) (by kernel_rfl) 2 (fun _ => by kernel_rfl) (fun _ => mt_bs (by kernel_rfl)) (fun _ => by kernel_rfl) (fun b14 => ro_fin ?_))
  refine ro_op (by kernel_rfl) (op_store 27 (.tmp 7) (.tmp 23) 2 0 (.v (.agg #[.int .i64 (w64 (y11.1)), .int .i64 (w64 (y13.1)), .string (⟨#[]⟩ : ByteArray)])) [.c 2 [I (w64 (y11.1)), I (w64 (y13.1)), S (⟨#[]⟩ : ByteArray)] 27, .a (R_bits_Reader b5 y13.2), .c 0 [I 0, I 0, S (⟨#[]⟩ : ByteArray)] 27] (by kernel_rfl) (by kernel_rfl) (by kernel_rfl) (by kernel_rfl) (ro_fin ?_))
  refine ro_end (by kernel_rfl) (fin_next ?_)
  refine rn_seq ?_
  refine rn_text ?_
  refine ro_q 1 [] [0, 2, 4, 5, 6, 7, 24] [(0, S a1), (2, .p 0 0), (4, .p 1 0), (5, U .u32 y7.1), (6, B (y9.1 == 1)), (7, .p 2 0), (24, .p 1 0)] [] (by kernel_rfl) trivial ?_
  refine bind_elim hres fun y16 hy16 hres => ?_
  refine ro_op (by kernel_rfl) (op_call (f := 34) (xs := #[(.tmp 24), (.const (.int .i64 16))]) (ats := #[96, 3]) (d := (some 25)) (args := #[.pointer (some ⟨b5, 0, none⟩), .int .i64 16]) (by kernel_rfl) (by kernel_rfl) (by kernel_rfl) (by kernel_rfl) fun w hw => (bits_Reader_Get_ok (F := [cellsA b14 [.int .i64 (w64 (y11.1)), .int .i64 (w64 (y13.1)), .string (⟨#[]⟩ : ByteArray)] 27, cellsA b2 [.int .i64 0, .int .i64 0, .string (⟨#[]⟩ : ByteArray)] 27] ++ F) hy16 (hw.sel [1] (by kernel_rfl : _ = [R_bits_Reader b5 y13.2] ++ ([cellsA b14 [.int .i64 (w64 (y11.1)), .int .i64 (w64 (y13.1)), .string (⟨#[]⟩ : ByteArray)] 27, cellsA b2 [.int .i64 0, .int .i64 0, .string (⟨#[]⟩ : ByteArray)] 27] ++ F)))).mono ?_)
  rintro _ w1 ⟨rfl, hw1⟩
  refine ⟨_, [b2, b5, b14], [.a (R_bits_Reader b5 y16.2), .c 2 [I (w64 (y11.1)), I (w64 (y13.1)), S (⟨#[]⟩ : ByteArray)] 27, .c 0 [I 0, I 0, S (⟨#[]⟩ : ByteArray)] 27], _, rfl, hw1.eq (by kernel_rfl), rfl, mt_same, ro_fin ?_⟩
  refine ro_q 4 [] [0, 2, 4, 5, 6, 7, 8] [(0, S a1), (2, .p 0 0), (4, .p 1 0), (5, U .u32 y7.1), (6, B (y9.1 == 1)), (7, .p 2 0), (8, I (w64 (4 + (w64 (4 * (w64 (y16.1)))))))] [] (by kernel_rfl) trivial ?_
  refine ro_end (by kernel_rfl) (fin_next ?_)
  refine rn_join (V := Unit) (J := fun v => rtcp_part.j1574 a1 y7 y9 y11 y13 y16 = some (.error r)) (sv := fun v => ⟨[b2, 0, b14], [(0, S a1), (2, .p 0 0), (5, U .u32 y7.1), (6, B (y9.1 == 1)), (7, .p 2 0), (8, I (w64 (4 + (w64 (4 * (w64 (y16.1)))))))], [.c 2 [I (w64 (y11.1)), I (w64 (y13.1)), S (⟨#[]⟩ : ByteArray)] 27, .c 0 [I 0, I 0, S (⟨#[]⟩ : ByteArray)] 27]⟩) ?_ ?_
  · refine rn_text ?_
    refine ro_q 1 [] [0, 2, 5, 6, 7, 8, 29] [(0, S a1), (2, .p 0 0), (5, U .u32 y7.1), (6, B (y9.1 == 1)), (7, .p 2 0), (8, I (w64 (4 + (w64 (4 * (w64 (y16.1))))))), (29, .p 1 0)] [] (by kernel_rfl) trivial ?_
    refine bind_elim hres fun y18 hy18 hres => ?_
    refine ro_op (by kernel_rfl) (op_call (f := 35) (xs := #[(.tmp 29)]) (ats := #[96]) (d := (some 30)) (args := #[.pointer (some ⟨b5, 0, none⟩)]) (by kernel_rfl) (by kernel_rfl) (by kernel_rfl) (by kernel_rfl) fun w hw => (bits_Reader_Bad_ok (F := [cellsA b14 [.int .i64 (w64 (y11.1)), .int .i64 (w64 (y13.1)), .string (⟨#[]⟩ : ByteArray)] 27, cellsA b2 [.int .i64 0, .int .i64 0, .string (⟨#[]⟩ : ByteArray)] 27] ++ F) hy18 (hw.sel [0] (by kernel_rfl : _ = [R_bits_Reader b5 y16.2] ++ ([cellsA b14 [.int .i64 (w64 (y11.1)), .int .i64 (w64 (y13.1)), .string (⟨#[]⟩ : ByteArray)] 27, cellsA b2 [.int .i64 0, .int .i64 0, .string (⟨#[]⟩ : ByteArray)] 27] ++ F)))).mono ?_)
    rintro _ w1 ⟨rfl, hw1⟩
    refine ⟨_, [b2, b5, b14], [.a (R_bits_Reader b5 y16.2), .c 2 [I (w64 (y11.1)), I (w64 (y13.1)), S (⟨#[]⟩ : ByteArray)] 27, .c 0 [I 0, I 0, S (⟨#[]⟩ : ByteArray)] 27], _, rfl, hw1.eq (by kernel_rfl), rfl, mt_same, ro_fin ?_⟩
    refine ro_q 2 [] [0, 2, 5, 6, 7, 8, 32] [(0, S a1), (2, .p 0 0), (5, U .u32 y7.1), (6, B (y9.1 == 1)), (7, .p 2 0), (8, I (w64 (4 + (w64 (4 * (w64 (y16.1))))))), (32, B (!y18))] [] (by kernel_rfl) trivial ?_
    refine ro_split 32 (!y18) (by kernel_rfl) (fun c19 => ?_) (fun c19 => ?_)
    · rw [if_neg (nt_of_f (nb_t c19))] at hres
      refine ro_q 5 [] [0, 2, 5, 6, 7, 8, 37] [(0, S a1), (2, .p 0 0), (5, U .u32 y7.1), (6, B (y9.1 == 1)), (7, .p 2 0), (8, I (w64 (4 + (w64 (4 * (w64 (y16.1))))))), (37, B (decide ((w64 (4 + (w64 (4 * (w64 (y16.1)))))) ≤ (a1.size : Int))))] [] (by kernel_rfl) trivial ?_
      refine bind_elim hres fun y21 hy21 hres => ?_
      rcases y21 with v23 | y22
      · dsimp only [onOk] at hres
        have hq := Except.error.inj (Option.some.inj hres)
        subst hq
        refine ro_op (by kernel_rfl) (op_callpanic (f := 23) (xs := #[(.tmp 37), (.const (.int .i64 60))]) (ats := #[4, 34]) (d := (some 38)) (args := #[.bool (decide ((w64 (4 + (w64 (4 * (w64 (y16.1)))))) ≤ (a1.size : Int))), .int .i64 60]) (by kernel_rfl) (by kernel_rfl) (by kernel_rfl) (by kernel_rfl) fun w hw => (rtcp_want_err hy21 hw).mono ?_)
        rintro _ w1 ⟨rfl, hw1⟩
        refine ⟨_, [.a (R_bits_Reader b5 y16.2), .c 2 [I (w64 (y11.1)), I (w64 (y13.1)), S (⟨#[]⟩ : ByteArray)] 27, .c 0 [I 0, I 0, S (⟨#[]⟩ : ByteArray)] 27], rfl, hw1.eq (by kernel_rfl), (fin_then_panic ?_)⟩
        exact fin_panic fun w hw => ⟨rfl, hw.drop⟩
      · dsimp only [onOk] at hres
        refine ro_op (by kernel_rfl) (op_call (f := 23) (xs := #[(.tmp 37), (.const (.int .i64 60))]) (ats := #[4, 34]) (d := (some 38)) (args := #[.bool (decide ((w64 (4 + (w64 (4 * (w64 (y16.1)))))) ≤ (a1.size : Int))), .int .i64 60]) (by kernel_rfl) (by kernel_rfl) (by kernel_rfl) (by kernel_rfl) fun w hw => (rtcp_want_ok hy21 hw).mono ?_)
        rintro _ w1 ⟨rfl, hw1⟩
        refine ⟨_, [b2, b5, b14], [.a (R_bits_Reader b5 y16.2), .c 2 [I (w64 (y11.1)), I (w64 (y13.1)), S (⟨#[]⟩ : ByteArray)] 27, .c 0 [I 0, I 0, S (⟨#[]⟩ : ByteArray)] 27], _, rfl, hw1.eq (by kernel_rfl), rfl, mt_same, ro_fin ?_⟩
        refine ro_end (by kernel_rfl) (fin_then ?_)
        refine fin_join () hres [1, 1] [R_bits_Reader b5 y16.2] (by kernel_rfl) (by kernel_rfl) (by kernel_rfl)
    · rw [if_pos ((nb_f c19))] at hres
      refine ro_q 5 [] [0, 2, 5, 6, 7, 8, 37] [(0, S a1), (2, .p 0 0), (5, U .u32 y7.1), (6, B (y9.1 == 1)), (7, .p 2 0), (8, I (w64 (4 + (w64 (4 * (w64 (y16.1))))))), (37, B false)] [] (by kernel_rfl) trivial ?_
      refine bind_elim hres fun y25 hy25 hres => ?_
      rcases y25 with v27 | y26
      · dsimp only [onOk] at hres
        have hq := Except.error.inj (Option.some.inj hres)
        subst hq
        refine ro_op (by kernel_rfl) (op_callpanic (f := 23) (xs := #[(.tmp 37), (.const (.int .i64 60))]) (ats := #[4, 34]) (d := (some 38)) (args := #[.bool false, .int .i64 60]) (by kernel_rfl) (by kernel_rfl) (by kernel_rfl) (by kernel_rfl) fun w hw => (rtcp_want_err hy25 hw).mono ?_)
        rintro _ w1 ⟨rfl, hw1⟩
        refine ⟨_, [.a (R_bits_Reader b5 y16.2), .c 2 [I (w64 (y11.1)), I (w64 (y13.1)), S (⟨#[]⟩ : ByteArray)] 27, .c 0 [I 0, I 0, S (⟨#[]⟩ : ByteArray)] 27], rfl, hw1.eq (by kernel_rfl), (fin_then_panic ?_)⟩
        exact fin_panic fun w hw => ⟨rfl, hw.drop⟩
      · dsimp only [onOk] at hres
        refine ro_op (by kernel_rfl) (op_call (f := 23) (xs := #[(.tmp 37), (.const (.int .i64 60))]) (ats := #[4, 34]) (d := (some 38)) (args := #[.bool false, .int .i64 60]) (by kernel_rfl) (by kernel_rfl) (by kernel_rfl) (by kernel_rfl) fun w hw => (rtcp_want_ok hy25 hw).mono ?_)
        rintro _ w1 ⟨rfl, hw1⟩
        refine ⟨_, [b2, b5, b14], [.a (R_bits_Reader b5 y16.2), .c 2 [I (w64 (y11.1)), I (w64 (y13.1)), S (⟨#[]⟩ : ByteArray)] 27, .c 0 [I 0, I 0, S (⟨#[]⟩ : ByteArray)] 27], _, rfl, hw1.eq (by kernel_rfl), rfl, mt_same, ro_fin ?_⟩
        refine ro_end (by kernel_rfl) (fin_then ?_)
        refine fin_join () hres [1, 1] [R_bits_Reader b5 y16.2] (by kernel_rfl) (by kernel_rfl) (by kernel_rfl)
  · rintro ⟨⟩ hres
    unfold rtcp_part.j1574 at hres
    refine rn_seq ?_
    refine rn_text ?_
    refine ro_q 2 [] [0, 2, 6, 7, 8, 40] [(0, S a1), (2, .p 0 0), (6, B (y9.1 == 1)), (7, .p 2 0), (8, I (w64 (4 + (w64 (4 * (w64 (y16.1))))))), (40, B (y7.1 == 2))] [] (by kernel_rfl) trivial ?_
    refine bind_elim hres fun y329 hy329 hres => ?_
    rcases y329 with v331 | y330
    · dsimp only [onOk] at hres
      have hq := Except.error.inj (Option.some.inj hres)
      subst hq
      refine ro_op (by kernel_rfl) (op_callpanic (f := 23) (xs := #[(.tmp 40), (.const (.int .i64 70))]) (ats := #[4, 34]) (d := (some 41)) (args := #[.bool (y7.1 == 2), .int .i64 70]) (by kernel_rfl) (by kernel_rfl) (by kernel_rfl) (by kernel_rfl) fun w hw => (rtcp_want_err hy329 hw).mono ?_)
      rintro _ w1 ⟨rfl, hw1⟩
      refine ⟨_, [.c 2 [I (w64 (y11.1)), I (w64 (y13.1)), S (⟨#[]⟩ : ByteArray)] 27, .c 0 [I 0, I 0, S (⟨#[]⟩ : ByteArray)] 27], rfl, hw1.eq (by kernel_rfl), (fin_then_panic ?_)⟩
      exact fin_panic fun w hw => ⟨rfl, hw.drop⟩
    · dsimp only [onOk] at hres
      refine ro_op (by kernel_rfl) (op_call (f := 23) (xs := #[(.tmp 40), (.const (.int .i64 70))]) (ats := #[4, 34]) (d := (some 41)) (args := #[.bool (y7.1 == 2), .int .i64 70]) (by kernel_rfl) (by kernel_rfl) (by kernel_rfl) (by kernel_rfl) fun w hw => (rtcp_want_ok hy329 hw).mono ?_)
      rintro _ w1 ⟨rfl, hw1⟩
      refine ⟨_, [b2, 0, b14], [.c 2 [I (w64 (y11.1)), I (w64 (y13.1)), S (⟨#[]⟩ : ByteArray)] 27, .c 0 [I 0, I 0, S (⟨#[]⟩ : ByteArray)] 27], _, rfl, hw1.eq (by kernel_rfl), rfl, mt_same, ro_fin ?_⟩
      refine ro_end (by kernel_rfl) (fin_next ?_)
      refine rn_join (V := Unit) (J := fun v => rtcp_part.j1573 a1 y9 y11 y13 y16 = some (.error r)) (sv := fun v => ⟨[b2, 0, b14], [(0, S a1), (2, .p 0 0), (6, B (y9.1 == 1)), (7, .p 2 0), (8, I (w64 (4 + (w64 (4 * (w64 (y16.1)))))))], [.c 2 [I (w64 (y11.1)), I (w64 (y13.1)), S (⟨#[]⟩ : ByteArray)] 27, .c 0 [I 0, I 0, S (⟨#[]⟩ : ByteArray)] 27]⟩) ?_ ?_
      · refine rn_text ?_
        refine ro_q 4 [] [0, 2, 6, 7, 8, 45] [(0, S a1), (2, .p 0 0), (6, B (y9.1 == 1)), (7, .p 2 0), (8, I (w64 (4 + (w64 (4 * (w64 (y16.1))))))), (45, B (decide (192 ≤ (w64 (y13.1)))))] [] (by kernel_rfl) trivial ?_
        refine ro_split 45 (decide (192 ≤ (w64 (y13.1)))) (by kernel_rfl) (fun c332 => ?_) (fun c332 => ?_)
        · rw [if_pos (of_decide_eq_true c332)] at hres
          refine ro_q 4 [] [0, 2, 6, 7, 8, 49] [(0, S a1), (2, .p 0 0), (6, B (y9.1 == 1)), (7, .p 2 0), (8, I (w64 (4 + (w64 (4 * (w64 (y16.1))))))), (49, B (decide ((w64 (y13.1)) ≤ 223)))] [] (by kernel_rfl) trivial ?_
          refine bind_elim hres fun y334 hy334 hres => ?_
          rcases y334 with v336 | y335
          · dsimp only [onOk] at hres
            have hq := Except.error.inj (Option.some.inj hres)
            subst hq
            refine ro_op (by kernel_rfl) (op_callpanic (f := 23) (xs := #[(.tmp 49), (.const (.int .i64 81))]) (ats := #[4, 34]) (d := (some 50)) (args := #[.bool (decide ((w64 (y13.1)) ≤ 223)), .int .i64 81]) (by kernel_rfl) (by kernel_rfl) (by kernel_rfl) (by kernel_rfl) fun w hw => (rtcp_want_err hy334 hw).mono ?_)
            rintro _ w1 ⟨rfl, hw1⟩
            refine ⟨_, [.c 2 [I (w64 (y11.1)), I (w64 (y13.1)), S (⟨#[]⟩ : ByteArray)] 27, .c 0 [I 0, I 0, S (⟨#[]⟩ : ByteArray)] 27], rfl, hw1.eq (by kernel_rfl), (fin_then_panic ?_)⟩
            exact fin_panic fun w hw => ⟨rfl, hw.drop⟩
          · dsimp only [onOk] at hres
            refine ro_op (by kernel_rfl) (op_call (f := 23) (xs := #[(.tmp 49), (.const (.int .i64 81))]) (ats := #[4, 34]) (d := (some 50)) (args := #[.bool (decide ((w64 (y13.1)) ≤ 223)), .int .i64 81]) (by kernel_rfl) (by kernel_rfl) (by kernel_rfl) (by kernel_rfl) fun w hw => (rtcp_want_ok hy334 hw).mono ?_)
            rintro _ w1 ⟨rfl, hw1⟩
            refine ⟨_, [b2, 0, b14], [.c 2 [I (w64 (y11.1)), I (w64 (y13.1)), S (⟨#[]⟩ : ByteArray)] 27, .c 0 [I 0, I 0, S (⟨#[]⟩ : ByteArray)] 27], _, rfl, hw1.eq (by kernel_rfl), rfl, mt_same, ro_fin ?_⟩
            refine ro_end (by kernel_rfl) (fin_then ?_)
            refine fin_join () hres [0, 0] [] (by kernel_rfl) (by kernel_rfl) (by kernel_rfl)
        · rw [if_neg (of_decide_eq_false c332)] at hres
          refine ro_q 4 [] [0, 2, 6, 7, 8, 49] [(0, S a1), (2, .p 0 0), (6, B (y9.1 == 1)), (7, .p 2 0), (8, I (w64 (4 + (w64 (4 * (w64 (y16.1))))))), (49, B false)] [] (by kernel_rfl) trivial ?_
          refine bind_elim hres fun y338 hy338 hres => ?_
          rcases y338 with v340 | y339
          · dsimp only [onOk] at hres
            have hq := Except.error.inj (Option.some.inj hres)
            subst hq
            refine ro_op (by kernel_rfl) (op_callpanic (f := 23) (xs := #[(.tmp 49), (.const (.int .i64 81))]) (ats := #[4, 34]) (d := (some 50)) (args := #[.bool false, .int .i64 81]) (by kernel_rfl) (by kernel_rfl) (by kernel_rfl) (by kernel_rfl) fun w hw => (rtcp_want_err hy338 hw).mono ?_)
            rintro _ w1 ⟨rfl, hw1⟩
            refine ⟨_, [.c 2 [I (w64 (y11.1)), I (w64 (y13.1)), S (⟨#[]⟩ : ByteArray)] 27, .c 0 [I 0, I 0, S (⟨#[]⟩ : ByteArray)] 27], rfl, hw1.eq (by kernel_rfl), (fin_then_panic ?_)⟩
            exact fin_panic fun w hw => ⟨rfl, hw.drop⟩
          · dsimp only [onOk] at hres
            refine ro_op (by kernel_rfl) (op_call (f := 23) (xs := #[(.tmp 49), (.const (.int .i64 81))]) (ats := #[4, 34]) (d := (some 50)) (args := #[.bool false, .int .i64 81]) (by kernel_rfl) (by kernel_rfl) (by kernel_rfl) (by kernel_rfl) fun w hw => (rtcp_want_ok hy338 hw).mono ?_)
            rintro _ w1 ⟨rfl, hw1⟩
            refine ⟨_, [b2, 0, b14], [.c 2 [I (w64 (y11.1)), I (w64 (y13.1)), S (⟨#[]⟩ : ByteArray)] 27, .c 0 [I 0, I 0, S (⟨#[]⟩ : ByteArray)] 27], _, rfl, hw1.eq (by kernel_rfl), rfl, mt_same, ro_fin ?_⟩
            refine ro_end (by kernel_rfl) (fin_then ?_)
            refine fin_join () hres [0, 0] [] (by kernel_rfl) (by kernel_rfl) (by kernel_rfl)
      · rintro ⟨⟩ hres
        unfold rtcp_part.j1573 at hres
        refine rn_seq ?_
        refine bind_elim hres fun y641 hy642 hres => ?_
        refine rn_text ?_
        refine ro_q 4 [(2, S y641)] [0, 2, 6, 7, 8, 53, 54] [(0, S a1), (2, .p 0 0), (6, B (y9.1 == 1)), (7, .p 2 0), (8, I (w64 (4 + (w64 (4 * (w64 (y16.1))))))), (53, S y641), (54, .p 2 2)] [(smSl 9 (.string a1) (some (.int .i64 4)) (some (.int .i64 (w64 (4 + (w64 (4 * (w64 (y16.1)))))))) none, .string y641)] (by kernel_rfl) ⟨ob_bslLH (by kernel_rfl) hy642, trivial⟩ ?_
        refine ro_op (by kernel_rfl) (op_store 9 (.tmp 54) (.tmp 53) 2 2 (S y641) [.c 2 [I (w64 (y11.1)), I (w64 (y13.1)), S y641] 27, .c 0 [I 0, I 0, S (⟨#[]⟩ : ByteArray)] 27] (by kernel_rfl) (by kernel_rfl) (by kernel_rfl) (by kernel_rfl) (ro_fin ?_))
        refine ro_end (by kernel_rfl) (fin_next ?_)
        refine rn_join (V := ByteArray) (J := fun v => rtcp_part.j1572 y11 y13 y16 v = some (.error r)) (sv := fun v => ⟨[b2, 0, b14], [(2, .p 0 0), (7, .p 2 0), (8, I (w64 (4 + (w64 (4 * (w64 (y16.1)))))))], [.c 2 [I (w64 (y11.1)), I (w64 (y13.1)), S v] 27, .c 0 [I 0, I 0, S (⟨#[]⟩ : ByteArray)] 27]⟩) ?_ ?_
        · refine rn_seq ?_
          refine rn_q [] [0, 2, 7, 8, 55] [(0, S a1), (2, .p 0 0), (7, .p 2 0), (8, I (w64 (4 + (w64 (4 * (w64 (y16.1))))))), (55, B (y9.1 == 1))] [] (by kernel_rfl) trivial (fin_next ?_)
          refine rn_cond (y9.1 == 1) (by kernel_rfl) (fun c643 => ?_) (fun c643 => ?_)
          · rw [if_pos (eq_t c643)] at hres
            refine rn_seq ?_
            refine rn_q [] [0, 2, 7, 8, 9] [(0, S a1), (2, .p 0 0), (7, .p 2 0), (8, I (w64 (4 + (w64 (4 * (w64 (y16.1))))))), (9, I 0)] [] (by kernel_rfl) trivial (fin_next ?_)
            refine rn_join (V := Int) (J := fun v => rtcp_part.j1270 a1 y11 y13 y16 y641 v = some (.error r)) (sv := fun v => ⟨[b2, 0, b14], [(0, S a1), (2, .p 0 0), (7, .p 2 0), (8, I (w64 (4 + (w64 (4 * (w64 (y16.1))))))), (9, I v)], [.c 2 [I (w64 (y11.1)), I (w64 (y13.1)), S y641] 27, .c 0 [I 0, I 0, S (⟨#[]⟩ : ByteArray)] 27]⟩) ?_ ?_
            · refine rn_seq ?_
              refine rn_q [] [0, 2, 7, 8, 9, 57] [(0, S a1), (2, .p 0 0), (7, .p 2 0), (8, I (w64 (4 + (w64 (4 * (w64 (y16.1))))))), (9, I 0), (57, B (decide (4 < (w64 (4 + (w64 (4 * (w64 (y16.1)))))))))] [] (by kernel_rfl) trivial (fin_next ?_)
              refine rn_cond (decide (4 < (w64 (4 + (w64 (4 * (w64 (y16.1)))))))) (by kernel_rfl) (fun c644 => ?_) (fun c644 => ?_)
              · rw [if_pos (of_decide_eq_true c644)] at hres
                refine bind_elim hres fun y645 hy646 hres => ?_
                refine rn_q [(3, U .u8 y645)] [0, 2, 7, 8, 9] [(0, S a1), (2, .p 0 0), (7, .p 2 0), (8, I (w64 (4 + (w64 (4 * (w64 (y16.1))))))), (9, I (w64 (y645)))] [(smIx 9 (.string a1) (.int .i64 (w64 ((w64 (4 + (w64 (4 * (w64 (y16.1)))))) - 1))), .int .u8 y645)] (by kernel_rfl) ⟨ob_bidx (by kernel_rfl) hy646, trivial⟩ (fin_then ?_)
                refine fin_join (w64 (y645)) hres [0, 0] [] (by kernel_rfl) (by kernel_rfl) (by kernel_rfl)
              · rw [if_neg (of_decide_eq_false c644)] at hres
                refine rn_skip (fin_then ?_)
                refine fin_join 0 hres [0, 0] [] (by kernel_rfl) (by kernel_rfl) (by kernel_rfl)
            · rintro j947 hres
              unfold rtcp_part.j1270 at hres
              refine rn_join (V := Unit) (J := fun v => rtcp_part.j1269 y11 y13 y16 y641 j947 = some (.error r)) (sv := fun v => ⟨[b2, 0, b14], [(2, .p 0 0), (7, .p 2 0), (8, I (w64 (4 + (w64 (4 * (w64 (y16.1))))))), (9, I j947)], [.c 2 [I (w64 (y11.1)), I (w64 (y13.1)), S y641] 27, .c 0 [I 0, I 0, S (⟨#[]⟩ : ByteArray)] 27]⟩) ?_ ?_
              · refine rn_text ?_
                refine ro_q 5 [] [2, 7, 8, 9, 67] [(2, .p 0 0), (7, .p 2 0), (8, I (w64 (4 + (w64 (4 * (w64 (y16.1))))))), (9, I j947), (67, B ((w64 (4 + (w64 (4 * (w64 (y16.1)))))) == (a1.size : Int)))] [] (by kernel_rfl) trivial ?_
                refine ro_split 67 ((w64 (4 + (w64 (4 * (w64 (y16.1)))))) == (a1.size : Int)) (by kernel_rfl) (fun c948 => ?_) (fun c948 => ?_)
                · rw [if_pos (eq_t c948)] at hres
                  refine ro_q 4 [] [2, 7, 8, 9, 71] [(2, .p 0 0), (7, .p 2 0), (8, I (w64 (4 + (w64 (4 * (w64 (y16.1))))))), (9, I j947), (71, B (decide (4 ≤ j947)))] [] (by kernel_rfl) trivial ?_
                  refine ro_split 71 (decide (4 ≤ j947)) (by kernel_rfl) (fun c949 => ?_) (fun c949 => ?_)
                  · rw [if_pos (of_decide_eq_true c949)] at hres
                    refine ro_q 5 [] [2, 7, 8, 9, 76] [(2, .p 0 0), (7, .p 2 0), (8, I (w64 (4 + (w64 (4 * (w64 (y16.1))))))), (9, I j947), (76, B ((j947.tmod 4) == 0))] [] (by kernel_rfl) trivial ?_
                    refine ro_split 76 ((j947.tmod 4) == 0) (by kernel_rfl) (fun c950 => ?_) (fun c950 => ?_)
                    · rw [if_pos (eq_t c950)] at hres
                      refine ro_q 6 [] [2, 7, 8, 9, 82] [(2, .p 0 0), (7, .p 2 0), (8, I (w64 (4 + (w64 (4 * (w64 (y16.1))))))), (9, I j947), (82, B (decide (j947 ≤ (y641.size : Int))))] [] (by kernel_rfl) trivial ?_
                      refine bind_elim hres fun y952 hy952 hres => ?_
                      rcases y952 with v954 | y953
                      · dsimp only [onOk] at hres
                        have hq := Except.error.inj (Option.some.inj hres)
                        subst hq
                        refine ro_op (by kernel_rfl) (op_callpanic (f := 23) (xs := #[(.tmp 82), (.const (.int .i64 91))]) (ats := #[4, 34]) (d := (some 83)) (args := #[.bool (decide (j947 ≤ (y641.size : Int))), .int .i64 91]) (by kernel_rfl) (by kernel_rfl) (by kernel_rfl) (by kernel_rfl) fun w hw => (rtcp_want_err hy952 hw).mono ?_)
                        rintro _ w1 ⟨rfl, hw1⟩
                        refine ⟨_, [.c 2 [I (w64 (y11.1)), I (w64 (y13.1)), S y641] 27, .c 0 [I 0, I 0, S (⟨#[]⟩ : ByteArray)] 27], rfl, hw1.eq (by kernel_rfl), (fin_then_panic (fin_then_panic ?_))⟩
                        exact fin_panic fun w hw => ⟨rfl, hw.drop⟩
                      · dsimp only [onOk] at hres
                        refine ro_op (by kernel_rfl) (op_call (f := 23) (xs := #[(.tmp 82), (.const (.int .i64 91))]) (ats := #[4, 34]) (d := (some 83)) (args := #[.bool (decide (j947 ≤ (y641.size : Int))), .int .i64 91]) (by kernel_rfl) (by kernel_rfl) (by kernel_rfl) (by kernel_rfl) fun w hw => (rtcp_want_ok hy952 hw).mono ?_)
                        rintro _ w1 ⟨rfl, hw1⟩
                        refine ⟨_, [b2, 0, b14], [.c 2 [I (w64 (y11.1)), I (w64 (y13.1)), S y641] 27, .c 0 [I 0, I 0, S (⟨#[]⟩ : ByteArray)] 27], _, rfl, hw1.eq (by kernel_rfl), rfl, mt_same, ro_fin ?_⟩
                        refine ro_end (by kernel_rfl) (fin_then ?_)
                        refine fin_join () hres [0, 0] [] (by kernel_rfl) (by kernel_rfl) (by kernel_rfl)
                    · rw [if_neg (eq_f c950)] at hres
                      refine ro_q 6 [] [2, 7, 8, 9, 82] [(2, .p 0 0), (7, .p 2 0), (8, I (w64 (4 + (w64 (4 * (w64 (y16.1))))))), (9, I j947), (82, B false)] [] (by kernel_rfl) trivial ?_
                      refine bind_elim hres fun y956 hy956 hres => ?_
                      rcases y956 with v958 | y957
                      · dsimp only [onOk] at hres
                        have hq := Except.error.inj (Option.some.inj hres)
                        subst hq
                        refine ro_op (by kernel_rfl) (op_callpanic (f := 23) (xs := #[(.tmp 82), (.const (.int .i64 91))]) (ats := #[4, 34]) (d := (some 83)) (args := #[.bool false, .int .i64 91]) (by kernel_rfl) (by kernel_rfl) (by kernel_rfl) (by kernel_rfl) fun w hw => (rtcp_want_err hy956 hw).mono ?_)
                        rintro _ w1 ⟨rfl, hw1⟩
                        refine ⟨_, [.c 2 [I (w64 (y11.1)), I (w64 (y13.1)), S y641] 27, .c 0 [I 0, I 0, S (⟨#[]⟩ : ByteArray)] 27], rfl, hw1.eq (by kernel_rfl), (fin_then_panic (fin_then_panic ?_))⟩
                        exact fin_panic fun w hw => ⟨rfl, hw.drop⟩
                      · dsimp only [onOk] at hres
                        refine ro_op (by kernel_rfl) (op_call (f := 23) (xs := #[(.tmp 82), (.const (.int .i64 91))]) (ats := #[4, 34]) (d := (some 83)) (args := #[.bool false, .int .i64 91]) (by kernel_rfl) (by kernel_rfl) (by kernel_rfl) (by kernel_rfl) fun w hw => (rtcp_want_ok hy956 hw).mono ?_)
                        rintro _ w1 ⟨rfl, hw1⟩
                        refine ⟨_, [b2, 0, b14], [.c 2 [I (w64 (y11.1)), I (w64 (y13.1)), S y641] 27, .c 0 [I 0, I 0, S (⟨#[]⟩ : ByteArray)] 27], _, rfl, hw1.eq (by kernel_rfl), rfl, mt_same, ro_fin ?_⟩
                        refine ro_end (by kernel_rfl) (fin_then ?_)
                        refine fin_join () hres [0, 0] [] (by kernel_rfl) (by kernel_rfl) (by kernel_rfl)
                  · rw [if_neg (of_decide_eq_false c949)] at hres
                    refine ro_q 11 [] [2, 7, 8, 9, 82] [(2, .p 0 0), (7, .p 2 0), (8, I (w64 (4 + (w64 (4 * (w64 (y16.1))))))), (9, I j947), (82, B false)] [] (by kernel_rfl) trivial ?_
                    refine bind_elim hres fun y960 hy960 hres => ?_
                    rcases y960 with v962 | y961
                    · dsimp only [onOk] at hres
                      have hq := Except.error.inj (Option.some.inj hres)
                      subst hq
                      refine ro_op (by kernel_rfl) (op_callpanic (f := 23) (xs := #[(.tmp 82), (.const (.int .i64 91))]) (ats := #[4, 34]) (d := (some 83)) (args := #[.bool false, .int .i64 91]) (by kernel_rfl) (by kernel_rfl) (by kernel_rfl) (by kernel_rfl) fun w hw => (rtcp_want_err hy960 hw).mono ?_)
                      rintro _ w1 ⟨rfl, hw1⟩
                      refine ⟨_, [.c 2 [I (w64 (y11.1)), I (w64 (y13.1)), S y641] 27, .c 0 [I 0, I 0, S (⟨#[]⟩ : ByteArray)] 27], rfl, hw1.eq (by kernel_rfl), (fin_then_panic (fin_then_panic ?_))⟩
                      exact fin_panic fun w hw => ⟨rfl, hw.drop⟩
                    · dsimp only [onOk] at hres
                      refine ro_op (by kernel_rfl) (op_call (f := 23) (xs := #[(.tmp 82), (.const (.int .i64 91))]) (ats := #[4, 34]) (d := (some 83)) (args := #[.bool false, .int .i64 91]) (by kernel_rfl) (by kernel_rfl) (by kernel_rfl) (by kernel_rfl) fun w hw => (rtcp_want_ok hy960 hw).mono ?_)
                      rintro _ w1 ⟨rfl, hw1⟩
                      refine ⟨_, [b2, 0, b14], [.c 2 [I (w64 (y11.1)), I (w64 (y13.1)), S y641] 27, .c 0 [I 0, I 0, S (⟨#[]⟩ : ByteArray)] 27], _, rfl, hw1.eq (by kernel_rfl), rfl, mt_same, ro_fin ?_⟩
                      refine ro_end (by kernel_rfl) (fin_then ?_)
                      refine fin_join () hres [0, 0] [] (by kernel_rfl) (by kernel_rfl) (by kernel_rfl)
                · rw [if_neg (eq_f c948)] at hres
                  refine ro_q 15 [] [2, 7, 8, 9, 82] [(2, .p 0 0), (7, .p 2 0), (8, I (w64 (4 + (w64 (4 * (w64 (y16.1))))))), (9, I j947), (82, B false)] [] (by kernel_rfl) trivial ?_
                  refine bind_elim hres fun y964 hy964 hres => ?_
                  rcases y964 with v966 | y965
                  · dsimp only [onOk] at hres
                    have hq := Except.error.inj (Option.some.inj hres)
                    subst hq
                    refine ro_op (by kernel_rfl) (op_callpanic (f := 23) (xs := #[(.tmp 82), (.const (.int .i64 91))]) (ats := #[4, 34]) (d := (some 83)) (args := #[.bool false, .int .i64 91]) (by kernel_rfl) (by kernel_rfl) (by kernel_rfl) (by kernel_rfl) fun w hw => (rtcp_want_err hy964 hw).mono ?_)
                    rintro _ w1 ⟨rfl, hw1⟩
                    refine ⟨_, [.c 2 [I (w64 (y11.1)), I (w64 (y13.1)), S y641] 27, .c 0 [I 0, I 0, S (⟨#[]⟩ : ByteArray)] 27], rfl, hw1.eq (by kernel_rfl), (fin_then_panic (fin_then_panic ?_))⟩
                    exact fin_panic fun w hw => ⟨rfl, hw.drop⟩
                  · dsimp only [onOk] at hres
                    refine ro_op (by kernel_rfl) (op_call (f := 23) (xs := #[(.tmp 82), (.const (.int .i64 91))]) (ats := #[4, 34]) (d := (some 83)) (args := #[.bool false, .int .i64 91]) (by kernel_rfl) (by kernel_rfl) (by kernel_rfl) (by kernel_rfl) fun w hw => (rtcp_want_ok hy964 hw).mono ?_)
                    rintro _ w1 ⟨rfl, hw1⟩
                    refine ⟨_, [b2, 0, b14], [.c 2 [I (w64 (y11.1)), I (w64 (y13.1)), S y641] 27, .c 0 [I 0, I 0, S (⟨#[]⟩ : ByteArray)] 27], _, rfl, hw1.eq (by kernel_rfl), rfl, mt_same, ro_fin ?_⟩
                    refine ro_end (by kernel_rfl) (fin_then ?_)
                    refine fin_join () hres [0, 0] [] (by kernel_rfl) (by kernel_rfl) (by kernel_rfl)
              · rintro ⟨⟩ hres
                unfold rtcp_part.j1269 at hres
                refine bind_elim hres fun y1267 hy1268 hres => ?_
                refine rn_text ?_
                refine ro_q 9 [(7, S y1267)] [2, 7, 8, 91, 92] [(2, .p 0 0), (7, .p 2 0), (8, I (w64 (4 + (w64 (4 * (w64 (y16.1))))))), (91, S y1267), (92, .p 2 2)] [(smSl 9 (.string y641) none (some (.int .i64 (w64 ((y641.size : Int) - j947)))) none, .string y1267)] (by kernel_rfl) ⟨ob_bslH (by kernel_rfl) hy1268, trivial⟩ ?_
                refine ro_op (by kernel_rfl) (op_store 9 (.tmp 92) (.tmp 91) 2 2 (S y1267) [.c 2 [I (w64 (y11.1)), I (w64 (y13.1)), S y1267] 27, .c 0 [I 0, I 0, S (⟨#[]⟩ : ByteArray)] 27] (by kernel_rfl) (by kernel_rfl) (by kernel_rfl) (by kernel_rfl) (ro_fin ?_))
                refine ro_end (by kernel_rfl) (fin_then ?_)
                refine fin_join y1267 hres [0, 0] [] (by kernel_rfl) (by kernel_rfl) (by kernel_rfl)
          · rw [if_neg (eq_f c643)] at hres
            refine rn_skip (fin_then ?_)
            refine fin_join y641 hres [0, 0] [] (by kernel_rfl) (by kernel_rfl) (by kernel_rfl)
        · rintro j1571 hres
          unfold rtcp_part.j1572 at hres
          refine rn_seq ?_
          refine rn_text ?_
          refine ro_q 2 [] [2, 93, 94] [(2, .p 0 0), (93, .v (.agg #[.int .i64 (w64 (y11.1)), .int .i64 (w64 (y13.1)), .string j1571])), (94, I (w64 (4 + (w64 (4 * (w64 (y16.1)))))))] [] (by kernel_rfl) trivial ?_
          refine ro_op (by kernel_rfl) (op_store 27 (.tmp 2) (.tmp 93) 0 0 (.v (.agg #[.int .i64 (w64 (y11.1)), .int .i64 (w64 (y13.1)), .string j1571])) [.c 2 [I (w64 (y11.1)), I (w64 (y13.1)), S j1571] 27, .c 0 [I (w64 (y11.1)), I (w64 (y13.1)), S j1571] 27] (by kernel_rfl) (by kernel_rfl) (by kernel_rfl) (by kernel_rfl) (ro_fin ?_))
          refine ro_q 1 [] [2, 3] [(2, .p 0 0), (3, I (w64 (4 + (w64 (4 * (w64 (y16.1)))))))] [] (by kernel_rfl) trivial ?_
          refine ro_end (by kernel_rfl) (fin_next ?_)
          refine rn_ret ?_
          cases hres
theorem rtcp_Split_1_c22_idle {b1 b2 : Nat} {w0 w : World} {F : List Asn} (hw : SH w0 w (F)) : CallsD Try.prog 22 #[.pointer (some ⟨b1, 0, none⟩), .pointer (some ⟨b2, 0, none⟩)] (.returning) w fun e u' w' => e = .returned (.tuple #[]) ∧ u' = .returning ∧ SH w0 w' (F) := by
  refine catch_enter (n := 13) (bs := [b1, b2]) (env := [(0, .p 0 0), (1, .p 1 0)]) (H := []) (F := F) (v := .nilIface) (u' := .returning) 5 Try.func22 rfl (fun _ => rfl) rfl rfl (by kernel_rfl) (by kernel_rfl) (by kernel_rfl) (by kernel_rfl) (hw.eq (by kernel_rfl)) (.inr ⟨rfl, rfl, rfl⟩) fun c₀ cs cs' hcs => ?_
  refine rn_block ?_
  refine rn_seq ?_
  refine rn_q [] [0, 1, 5, 7] [(0, .p 0 0), (1, .p 1 0), (5, .v (.nilIface)), (7, B true)] [] (by kernel_rfl) trivial (fin_next ?_)
  refine rn_cond_t (by kernel_rfl) ?_
  refine rn_q [] [] [] [] (by kernel_rfl) trivial (fin_block ?_)
  exact fin_catch hcs rfl fun w' hw' => ⟨rfl, rfl, hw'.drop⟩
theorem rtcp_Split_1_c22_catch {b1 b2 : Nat} {v1 v2 : Value} {x : Int} {w0 w : World} {F : List Asn} (hw : SH w0 w ([cellsA b1 [v1] 23, cellsA b2 [v2] 34] ++ F)) : CallsD Try.prog 22 #[.pointer (some ⟨b1, 0, none⟩), .pointer (some ⟨b2, 0, none⟩)] (.panicking [{ v := .iface 71 (.agg #[.int .i64 x]), recovered := false }]) w fun e u' w' => e = .returned (.tuple #[]) ∧ u' = .panicking [{ v := .iface 71 (.agg #[.int .i64 x]), recovered := true }] ∧ SH w0 w' ([cellsA b1 [.slice none 0 0] 23, cellsA b2 [.int .i64 x] 34] ++ F) := by
  refine catch_enter (n := 13) (bs := [b1, b2]) (env := [(0, .p 0 0), (1, .p 1 0)]) (H := [.c 0 [.v (v1)] 23, .c 1 [.v (v2)] 34]) (F := F) (v := .iface 71 (.agg #[.int .i64 x])) (u' := .panicking [{ v := .iface 71 (.agg #[.int .i64 x]), recovered := true }]) 5 Try.func22 rfl (fun _ => rfl) rfl rfl (by kernel_rfl) (by kernel_rfl) (by kernel_rfl) (by kernel_rfl) (hw.eq (by kernel_rfl)) (.inl ⟨[], rfl, rfl⟩) fun c₀ cs cs' hcs => ?_
  refine rn_block ?_
  refine rn_seq ?_
  refine rn_q [] [0, 1, 5, 7] [(0, .p 0 0), (1, .p 1 0), (5, .v (.iface 71 (.agg #[.int .i64 x]))), (7, B false)] [] (by kernel_rfl) trivial (fin_next ?_)
  refine rn_cond_f (by kernel_rfl) ?_
  refine rn_seq ?_
  refine rn_q [] [0, 1, 5, 9, 10] [(0, .p 0 0), (1, .p 1 0), (5, .v (.iface 71 (.agg #[.int .i64 x]))), (9, B true), (10, .v (.agg #[.int .i64 x]))] [] (by kernel_rfl) trivial (fin_next ?_)
  refine rn_cond_t (by kernel_rfl) ?_
  refine rn_seq ?_
  refine rn_text ?_
  refine ro_op (by kernel_rfl) (op_alloc 71 3 (.agg #[.int .i64 0]) [I 0] (fun b11 => [b1, b2, b11]) (fun b11 => [.c 2 [I 0] 71, .c 0 [.v (v1)] 23, .c 1 [.v (v2)] 34]) (by kernel_rfl) (by kernel_rfl) (by kernel_rfl) (by kernel_rfl) 2 (fun _ => by kernel_rfl) (fun _ => mt_bs (by kernel_rfl)) (fun _ => by kernel_rfl) (fun b11 => ro_fin ?_))
  refine ro_op (by kernel_rfl) (op_store 71 (.tmp 3) (.tmp 10) 2 0 (.v (.agg #[.int .i64 x])) [.c 2 [I x] 71, .c 0 [.v (v1)] 23, .c 1 [.v (v2)] 34] (by kernel_rfl) (by kernel_rfl) (by kernel_rfl) (by kernel_rfl) (ro_fin ?_))
  refine ro_end (by kernel_rfl) (fin_next ?_)
  refine rn_held (hden [b1, b2, b11] [.c 2 [I x] 71] ++ F) (by kernel_rfl) ?_
  refine rh_q [.c 2 [I x] 71] 2 [0, 1] [] [0, 1, 12] [(0, .p 0 0), (1, .p 1 0), (12, I x)] [true, true, false, false] [] rfl (by kernel_rfl) rfl [0] [cellsA b1 [v1] 23, cellsA b2 [v2] 34] (by kernel_rfl) (by kernel_rfl) trivial ?_
  refine rh_1 2 (by kernel_rfl) ?_
  refine op_store 23 (.tmp 0) (.const (.slice none 0 0)) 0 0 (.v (.slice none 0 0)) [.c 2 [I x] 71, .c 0 [.v (.slice none 0 0)] 23, .c 1 [.v (v2)] 34] (by kernel_rfl) (by kernel_rfl) (by kernel_rfl) (by kernel_rfl) (fin_held [.c 2 [I x] 71] [true, true, true, false] (by kernel_rfl) rfl [0] [cellsA b1 [.slice none 0 0] 23, cellsA b2 [v2] 34] (by kernel_rfl) ?_)
  refine rh_1 3 (by kernel_rfl) ?_
  refine op_store 34 (.tmp 1) (.tmp 12) 1 0 (I x) [.c 2 [I x] 71, .c 0 [.v (.slice none 0 0)] 23, .c 1 [I x] 34] (by kernel_rfl) (by kernel_rfl) (by kernel_rfl) (by kernel_rfl) (fin_held [.c 2 [I x] 71] [true, true, true, true] (by kernel_rfl) rfl [0] [cellsA b1 [.slice none 0 0] 23, cellsA b2 [.int .i64 x] 34] (by kernel_rfl) ?_)
  refine rh_end (by kernel_rfl) (fin_block ?_)
  exact fin_catch hcs rfl fun w' hw' => ⟨rfl, rfl, hw'.take (L' := [cellsA b1 [.slice none 0 0] 23, cellsA b2 [.int .i64 x] 34]) [1, 1] [cellsA b11 [.int .i64 x] 71] (by kernel_rfl)⟩
/- 11 flywheel/rtcp.Split -/
def rtcp_Split.l44  : Nat → ByteArray → (List S_api_Part) → Option ((List S_api_Part) × Int)
  | 0, _, _ => none
  | k + 1, x28, x29 =>
    (rtcp_part x28).bind fun y46 =>
  onOk y46 (fun v48 => (catchV 71 v48).bind fun x56 => some ([], x56)) fun y47 =>
  (cat 4398046511104 x29 [y47.1]).bind fun y51 =>
  (bsl x28 y47.2 (x28.size : Int)).bind fun y53 =>
  (if sEq y53 (⟨#[]⟩ : ByteArray) = true then some (y51, 0) else rtcp_Split.l44 k y53 y51)
def rtcp_Split (a1 : ByteArray) : Option ((List S_api_Part) × Int) :=
  (rtcp_want (decide ((a1.size : Int) ≤ 65536)) 2).bind fun y5 =>
  onOk y5 (fun v7 => (catchV 71 v7).bind fun x61 => some ([], x61)) fun y6 =>
  (rtcp_want (!sEq a1 (⟨#[]⟩ : ByteArray)) 60).bind fun y9 =>
  onOk y9 (fun v11 => (catchV 71 v11).bind fun x59 => some ([], x59)) fun y10 =>
  rtcp_Split.l44 FUEL a1 []
theorem rtcp_Split_ok {a1 : ByteArray} {r : (List S_api_Part) × Int} (hres : rtcp_Split a1 = some r) {w0 w : World} {F : List Asn} (hw : SH w0 w (F)) :
    Calls Try.prog 11 #[.string a1] w fun e w' => ∃ A63 k63, e = .returned (.tuple #[.slice A63 r.1.length k63, .int .i64 r.2]) ∧ SH w0 w' ([slA 27 e_api_Part A63 k63 r.1] ++ F) := by
  refine fw_enter_d (n := 29) (bs := []) (env := [(0, S a1)]) (H := []) (F := F) Try.func11 rfl (by kernel_rfl) (by kernel_rfl) (by kernel_rfl) (hw.eq (by kernel_rfl)) ?_
  unfold rtcp_Split at hres
  refine rn_seq ?_
  refine rn_text ?_
  refine ro_op (by kernel_rfl) (op_alloc 23 2 (.slice none 0 0) [.v (.slice none 0 0)] (fun b2 => [b2]) (fun b2 => [.c 0 [.v (.slice none 0 0)] 23]) (by kernel_rfl) (by kernel_rfl) (by kernel_rfl) (by kernel_rfl) 0 (fun _ => by kernel_rfl) (fun _ => mt_bs (by kernel_rfl)) (fun _ => by kernel_rfl) (fun b2 => ro_fin ?_))
  refine ro_op (by kernel_rfl) (op_alloc 34 3 (.int .i64 0) [I 0] (fun b3 => [b2, b3]) (fun b3 => [.c 1 [I 0] 34, .c 0 [.v (.slice none 0 0)] 23]) (by kernel_rfl) (by kernel_rfl) (by kernel_rfl) (by kernel_rfl) 1 (fun _ => by kernel_rfl) (fun _ => mt_bs (by kernel_rfl)) (fun _ => by kernel_rfl) (fun b3 => ro_fin ?_))
  refine ro_end (by kernel_rfl) (fin_next ?_)
  refine rn_scope ?_
  refine rn_seq ?_
  refine rn_text ?_
  refine ro_q 1 [] [0, 2, 3, 6] [(0, S a1), (2, .p 0 0), (3, .p 1 0), (6, .v (.func (.func 22) #[] #[.pointer (some ⟨b2, 0, none⟩), .pointer (some ⟨b3, 0, none⟩)]))] [] (by kernel_rfl) trivial ?_
  refine ro_op (by kernel_rfl) (op_defer (x := (.tmp 6)) (ats := #[]) (fv := .func 22) (caps := #[.pointer (some ⟨b2, 0, none⟩), .pointer (some ⟨b3, 0, none⟩)]) (by kernel_rfl) (by kernel_rfl) (ro_fin ?_))
  refine ro_end (by kernel_rfl) (fin_next ?_)
  refine rn_seq ?_
  refine rn_text ?_
  refine ro_q 3 [] [0, 2, 3, 9] [(0, S a1), (2, .p 0 0), (3, .p 1 0), (9, B (decide ((a1.size : Int) ≤ 65536)))] [] (by kernel_rfl) trivial ?_
  refine bind_elim hres fun y5 hy5 hres => ?_
  rcases y5 with v7 | y6
  · dsimp only [onOk] at hres
    refine bind_elim hres fun x61 hxx61 hres => ?_
    obtain rfl := catchV_spec hxx61
    refine ro_op (by kernel_rfl) (op_callpanic (f := 23) (xs := #[(.tmp 9), (.const (.int .i64 2))]) (ats := #[4, 34]) (d := (some 10)) (args := #[.bool (decide ((a1.size : Int) ≤ 65536)), .int .i64 2]) (by kernel_rfl) (by kernel_rfl) (by kernel_rfl) (by kernel_rfl) fun w hw => (rtcp_want_err hy5 hw).mono ?_)
    rintro _ w1 ⟨rfl, hw1⟩
    refine ⟨_, [.c 1 [I 0] 34, .c 0 [.v (.slice none 0 0)] 23], rfl, hw1.eq (by kernel_rfl), (fin_then_panic (fin_scope_panic ?_))⟩
    refine fin_nil 27 e_api_Part ?_
    refine fin_panic_d [.slice none 0 0, .int .i64 x61] [.c 0 [.v (.slice none 0 0)] 23, .c 1 [I x61] 34, .a (slA 27 e_api_Part none 0 [])] rfl (by kernel_rfl) (fun w hw => (rtcp_Split_1_c22_catch (hw.sel [2, 1] (by kernel_rfl : _ = [cellsA b2 [.slice none 0 0] 23, cellsA b3 [.int .i64 0] 34] ++ ([slA 27 e_api_Part none 0 []] ++ F)))).mono fun e u' w' hh => ⟨hh.1, hh.2.1, hh.2.2.eq (by kernel_rfl)⟩) (by kernel_rfl) fun w' hw' => ?_
    have hq := Option.some.inj hres
    subst hq
    exact ⟨none, 0, rfl, hw'.take (L' := [slA 27 e_api_Part none 0 []]) [2] [cellsA b2 [.slice none 0 0] 23, cellsA b3 [.int .i64 x61] 34] (by kernel_rfl)⟩
  · dsimp only [onOk] at hres
    refine ro_op (by kernel_rfl) (op_call (f := 23) (xs := #[(.tmp 9), (.const (.int .i64 2))]) (ats := #[4, 34]) (d := (some 10)) (args := #[.bool (decide ((a1.size : Int) ≤ 65536)), .int .i64 2]) (by kernel_rfl) (by kernel_rfl) (by kernel_rfl) (by kernel_rfl) fun w hw => (rtcp_want_ok hy5 hw).mono ?_)
    rintro _ w1 ⟨rfl, hw1⟩
    refine ⟨_, [b2, b3], [.c 1 [I 0] 34, .c 0 [.v (.slice none 0 0)] 23], _, rfl, hw1.eq (by kernel_rfl), rfl, mt_same, ro_fin ?_⟩
    refine ro_end (by kernel_rfl) (fin_next ?_)
    refine rn_seq ?_
    refine rn_text ?_
    refine ro_q 2 [] [0, 2, 3, 12] [(0, S a1), (2, .p 0 0), (3, .p 1 0), (12, B (!sEq a1 (⟨#[]⟩ : ByteArray)))] [] (by kernel_rfl) trivial ?_
    refine bind_elim hres fun y9 hy9 hres => ?_
    rcases y9 with v11 | y10
    · dsimp only [onOk] at hres
      refine bind_elim hres fun x59 hxx59 hres => ?_
      obtain rfl := catchV_spec hxx59
      refine ro_op (by kernel_rfl) (op_callpanic (f := 23) (xs := #[(.tmp 12), (.const (.int .i64 60))]) (ats := #[4, 34]) (d := (some 13)) (args := #[.bool (!sEq a1 (⟨#[]⟩ : ByteArray)), .int .i64 60]) (by kernel_rfl) (by kernel_rfl) (by kernel_rfl) (by kernel_rfl) fun w hw => (rtcp_want_err hy9 hw).mono ?_)
      rintro _ w1 ⟨rfl, hw1⟩
      refine ⟨_, [.c 1 [I 0] 34, .c 0 [.v (.slice none 0 0)] 23], rfl, hw1.eq (by kernel_rfl), (fin_then_panic (fin_scope_panic ?_))⟩
      refine fin_nil 27 e_api_Part ?_
      refine fin_panic_d [.slice none 0 0, .int .i64 x59] [.c 0 [.v (.slice none 0 0)] 23, .c 1 [I x59] 34, .a (slA 27 e_api_Part none 0 [])] rfl (by kernel_rfl) (fun w hw => (rtcp_Split_1_c22_catch (hw.sel [2, 1] (by kernel_rfl : _ = [cellsA b2 [.slice none 0 0] 23, cellsA b3 [.int .i64 0] 34] ++ ([slA 27 e_api_Part none 0 []] ++ F)))).mono fun e u' w' hh => ⟨hh.1, hh.2.1, hh.2.2.eq (by kernel_rfl)⟩) (by kernel_rfl) fun w' hw' => ?_
      have hq := Option.some.inj hres
      subst hq
      exact ⟨none, 0, rfl, hw'.take (L' := [slA 27 e_api_Part none 0 []]) [2] [cellsA b2 [.slice none 0 0] 23, cellsA b3 [.int .i64 x59] 34] (by kernel_rfl)⟩
    · dsimp only [onOk] at hres
      refine ro_op (by kernel_rfl) (op_call (f := 23) (xs := #[(.tmp 12), (.const (.int .i64 60))]) (ats := #[4, 34]) (d := (some 13)) (args := #[.bool (!sEq a1 (⟨#[]⟩ : ByteArray)), .int .i64 60]) (by kernel_rfl) (by kernel_rfl) (by kernel_rfl) (by kernel_rfl) fun w hw => (rtcp_want_ok hy9 hw).mono ?_)
      rintro _ w1 ⟨rfl, hw1⟩
      refine ⟨_, [b2, b3], [.c 1 [I 0] 34, .c 0 [.v (.slice none 0 0)] 23], _, rfl, hw1.eq (by kernel_rfl), rfl, mt_same, ro_fin ?_⟩
      refine ro_end (by kernel_rfl) (fin_next ?_)
      refine rn_nil 27 e_api_Part ?_
      refine rn_label (by kernel_rfl) (V := ByteArray × List S_api_Part × Option Addr × Nat) (J := fun k v => rtcp_Split.l44 k v.1 v.2.1 = some r) (sv := fun v => ⟨[b2, b3], [(0, S v.1), (2, .p 0 0), (3, .p 1 0)], [.a (slA 27 e_api_Part v.2.2.1 v.2.2.2 v.2.1), .c 1 [I 0] 34, .c 0 [.v (.slice v.2.2.1 v.2.1.length v.2.2.2)] 23]⟩) FUEL (a1, [], none, 0) hres (fun a w hs => hs.conv [0, 0, 0] (by kernel_rfl) (by kernel_rfl) ⟨[], by kernel_rfl⟩) ?_
      rintro k44 ⟨x28, x29, A30, c30⟩ hres
      rcases k44 with _ | k44
      · rw [rtcp_Split.l44] at hres; cases hres
      · rw [rtcp_Split.l44] at hres
        refine rn_seq ?_
        refine rn_text ?_
        refine ro_q 1 [] [0, 2, 3, 15] [(0, S x28), (2, .p 0 0), (3, .p 1 0), (15, S x28)] [] (by kernel_rfl) trivial ?_
        refine bind_elim hres fun y46 hy46 hres => ?_
        rcases y46 with v48 | y47
        · dsimp only [onOk] at hres
          refine bind_elim hres fun x56 hxx56 hres => ?_
          obtain rfl := catchV_spec hxx56
          refine ro_op (by kernel_rfl) (op_callpanic (f := 24) (xs := #[(.tmp 15)]) (ats := #[9]) (d := (some 16)) (args := #[.string x28]) (by kernel_rfl) (by kernel_rfl) (by kernel_rfl) (by kernel_rfl) fun w hw => (rtcp_part_err hy46 hw).mono ?_)
          rintro _ w1 ⟨rfl, hw1⟩
          refine ⟨_, [.a (slA 27 e_api_Part A30 c30 x29), .c 1 [I 0] 34, .c 0 [.v (.slice A30 x29.length c30)] 23], rfl, hw1.eq (by kernel_rfl), (fin_then_panic (fin_scope_panic ?_))⟩
          refine fin_nil 27 e_api_Part ?_
          refine fin_panic_d [.slice none 0 0, .int .i64 x56] [.c 0 [.v (.slice none 0 0)] 23, .c 1 [I x56] 34, .a (slA 27 e_api_Part none 0 []), .a (slA 27 e_api_Part A30 c30 x29)] rfl (by kernel_rfl) (fun w hw => (rtcp_Split_1_c22_catch (hw.sel [3, 2] (by kernel_rfl : _ = [cellsA b2 [.slice A30 x29.length c30] 23, cellsA b3 [.int .i64 0] 34] ++ ([slA 27 e_api_Part none 0 [], slA 27 e_api_Part A30 c30 x29] ++ F)))).mono fun e u' w' hh => ⟨hh.1, hh.2.1, hh.2.2.eq (by kernel_rfl)⟩) (by kernel_rfl) fun w' hw' => ?_
          have hq := Option.some.inj hres
          subst hq
          exact ⟨none, 0, rfl, hw'.take (L' := [slA 27 e_api_Part none 0 []]) [2] [cellsA b2 [.slice none 0 0] 23, cellsA b3 [.int .i64 x56] 34, slA 27 e_api_Part A30 c30 x29] (by kernel_rfl)⟩
        · dsimp only [onOk] at hres
          refine ro_op (by kernel_rfl) (op_call (f := 24) (xs := #[(.tmp 15)]) (ats := #[9]) (d := (some 16)) (args := #[.string x28]) (by kernel_rfl) (by kernel_rfl) (by kernel_rfl) (by kernel_rfl) fun w hw => (rtcp_part_ok hy46 hw).mono ?_)
          rintro _ w1 ⟨rfl, hw1⟩
          refine ⟨_, [b2, b3], [.a (slA 27 e_api_Part A30 c30 x29), .c 1 [I 0] 34, .c 0 [.v (.slice A30 x29.length c30)] 23], _, rfl, hw1.eq (by kernel_rfl), rfl, mt_same, ro_fin ?_⟩
          refine ro_q 3 [] [0, 2, 3, 17, 18] [(0, S x28), (2, .p 0 0), (3, .p 1 0), (17, .v (.agg #[.int .i64 y47.1.Count, .int .i64 y47.1.Type_, .string y47.1.Body])), (18, I y47.2)] [] (by kernel_rfl) trivial ?_
          refine ro_op (by kernel_rfl) (op_alloc 27 4 (.agg #[.int .i64 0, .int .i64 0, .string (⟨#[]⟩ : ByteArray)]) [I 0, I 0, S (⟨#[]⟩ : ByteArray)] (fun b49 => [b2, b3, b49]) (fun b49 => [.c 2 [I 0, I 0, S (⟨#[]⟩ : ByteArray)] 27, .a (slA 27 e_api_Part A30 c30 x29), .c 1 [I 0] 34, .c 0 [.v (.slice A30 x29.length c30)] 23]) (by kernel_rfl) (by kernel_rfl) (by kernel_rfl) (by kernel_rfl) 2 (fun _ => by kernel_rfl) (fun _ => mt_bs (by kernel_rfl)) (fun _ => by kernel_rfl) (fun b49 => ro_fin ?_))
          refine ro_op (by kernel_rfl) (op_store 27 (.tmp 4) (.tmp 17) 2 0 (.v (.agg #[.int .i64 y47.1.Count, .int .i64 y47.1.Type_, .string y47.1.Body])) [.c 2 [I y47.1.Count, I y47.1.Type_, S y47.1.Body] 27, .a (slA 27 e_api_Part A30 c30 x29), .c 1 [I 0] 34, .c 0 [.v (.slice A30 x29.length c30)] 23] (by kernel_rfl) (by kernel_rfl) (by kernel_rfl) (by kernel_rfl) (ro_fin ?_))
          refine ro_q 1 [] [0, 2, 3, 4, 5] [(0, S x28), (2, .p 0 0), (3, .p 1 0), (4, .p 2 0), (5, I y47.2)] [] (by kernel_rfl) trivial ?_
          refine ro_end (by kernel_rfl) (fin_next ?_)
          refine rn_seq ?_
          refine rn_text ?_
          refine ro_q 2 [] [0, 2, 3, 5, 19, 20] [(0, S x28), (2, .p 0 0), (3, .p 1 0), (5, I y47.2), (19, .v (.slice A30 x29.length c30)), (20, .v (.agg #[.int .i64 y47.1.Count, .int .i64 y47.1.Type_, .string y47.1.Body]))] [] (by kernel_rfl) trivial ?_
          refine ro_op (by kernel_rfl) (op_bslice (E := e_api_Part) 23 27 1 #[(0, (.tmp 20))] 21 [y47.1] (by kernel_rfl) (by kernel_rfl) (by kernel_rfl) rfl (by decide) (by kernel_rfl) (fun b50 => ro_fin ?_))
          refine bind_elim hres fun y51 hy51 hres => ?_
          refine ro_op (by kernel_rfl) (op_append (E := e_api_Part) (lim := 4398046511104) 23 23 27 (.tmp 19) (.tmp 21) 22 A30 (.slice (some ⟨b50, 0, none⟩) 1 1) c30 x29 [y47.1] ((Try.prog.info? 27).get rfl) (((Try.prog.info? 27).get rfl).zero.get rfl) 2 [.a (slA 27 e_api_Part (some ⟨b50, 0, none⟩) 1 [y47.1]), .c 2 [I y47.1.Count, I y47.1.Type_, S y47.1.Body] 27, .c 1 [I 0] 34, .c 0 [.v (.slice A30 x29.length c30)] 23] (by kernel_rfl) (by kernel_rfl) (by kernel_rfl) (by kernel_rfl) (by kernel_rfl) (by kernel_rfl) (by kernel_rfl) (by kernel_rfl) (by kernel_rfl) (Nat.le_of_ble_eq_true (by kernel_rfl)) (by decide) hy51 (by kernel_rfl) (ap_sl (e := 27) (E := e_api_Part) (B := (some ⟨b50, 0, none⟩)) (c := 1) (M := [y47.1]) (by kernel_rfl) (by kernel_rfl) (row_at (U := 27) (E := e_api_Part) (A := (some ⟨b50, 0, none⟩)) (c := 1) (L := [y47.1]) 0 (by kernel_rfl))) (fun A52 k52 => ro_fin ?_))
          refine ro_op (by kernel_rfl) (op_store 23 (.tmp 2) (.tmp 22) 0 0 (.v (.slice A52 y51.length k52)) [.a (slA 27 e_api_Part A52 k52 y51), .a (slA 27 e_api_Part (some ⟨b50, 0, none⟩) 1 [y47.1]), .c 2 [I y47.1.Count, I y47.1.Type_, S y47.1.Body] 27, .c 1 [I 0] 34, .c 0 [.v (.slice A52 y51.length k52)] 23] (by kernel_rfl) (by kernel_rfl) (by kernel_rfl) (by kernel_rfl) (ro_fin ?_))
          refine ro_end (by kernel_rfl) (fin_next ?_)
          refine rn_seq ?_
          refine bind_elim hres fun y53 hy54 hres => ?_
          refine rn_q [(2, S y53)] [0, 2, 3] [(0, S y53), (2, .p 0 0), (3, .p 1 0)] [(smSl 9 (.string x28) (some (.int .i64 y47.2)) none none, .string y53)] (by kernel_rfl) ⟨ob_bslL (by kernel_rfl) hy54, trivial⟩ (fin_next ?_)
          refine rn_seq ?_
          refine rn_seq ?_
          refine rn_q [] [0, 2, 3, 27] [(0, S y53), (2, .p 0 0), (3, .p 1 0), (27, B (!sEq y53 (⟨#[]⟩ : ByteArray)))] [] (by kernel_rfl) trivial (fin_next ?_)
          refine rn_cond (!sEq y53 (⟨#[]⟩ : ByteArray)) (by kernel_rfl) (fun c55 => ?_) (fun c55 => ?_)
          · rw [if_neg (nt_of_f (nb_t c55))] at hres
            refine rn_goto (fin_then_goto (fin_goto ?_))
            refine fin_loop (y53, y51, A52, k52) hres [0, 2, 2] [slA 27 e_api_Part (some ⟨b50, 0, none⟩) 1 [y47.1], cellsA b49 [.int .i64 y47.1.Count, .int .i64 y47.1.Type_, .string y47.1.Body] 27] (by kernel_rfl) (by kernel_rfl) (by kernel_rfl)
          · rw [if_pos (nb_f c55)] at hres
            refine rn_skip (fin_next ?_)
            refine rn_seq ?_
            refine rn_text ?_
            refine ro_q 1 [] [2, 3, 28] [(2, .p 0 0), (3, .p 1 0), (28, .v (.slice A52 y51.length k52))] [] (by kernel_rfl) trivial ?_
            refine ro_op (by kernel_rfl) (op_store 23 (.tmp 2) (.tmp 28) 0 0 (.v (.slice A52 y51.length k52)) [.a (slA 27 e_api_Part A52 k52 y51), .a (slA 27 e_api_Part (some ⟨b50, 0, none⟩) 1 [y47.1]), .c 2 [I y47.1.Count, I y47.1.Type_, S y47.1.Body] 27, .c 1 [I 0] 34, .c 0 [.v (.slice A52 y51.length k52)] 23] (by kernel_rfl) (by kernel_rfl) (by kernel_rfl) (by kernel_rfl) (ro_fin ?_))
            refine ro_op (by kernel_rfl) (op_store 34 (.tmp 3) (.const (.int .i64 0)) 1 0 (I 0) [.a (slA 27 e_api_Part A52 k52 y51), .a (slA 27 e_api_Part (some ⟨b50, 0, none⟩) 1 [y47.1]), .c 2 [I y47.1.Count, I y47.1.Type_, S y47.1.Body] 27, .c 1 [I 0] 34, .c 0 [.v (.slice A52 y51.length k52)] 23] (by kernel_rfl) (by kernel_rfl) (by kernel_rfl) (by kernel_rfl) (ro_fin ?_))
            refine ro_end (by kernel_rfl) (fin_next ?_)
            refine rn_ret (fin_scope_ret ?_)
            refine fin_ret_d [.slice A52 y51.length k52, .int .i64 0] rfl (by kernel_rfl) (fun w hw => rtcp_Split_1_c22_idle hw) (by kernel_rfl) fun w' hw' => ?_
            have hq := Option.some.inj hres
            subst hq
            exact ⟨A52, k52, rfl, hw'.take (L' := [slA 27 e_api_Part A52 k52 y51]) [0] [slA 27 e_api_Part (some ⟨b50, 0, none⟩) 1 [y47.1], cellsA b49 [.int .i64 y47.1.Count, .int .i64 y47.1.Type_, .string y47.1.Body] 27, cellsA b3 [.int .i64 0] 34, cellsA b2 [.slice A52 y51.length k52] 23] (by kernel_rfl)⟩
/- 36 (*flywheel/bits.Reader).Left -/
def bits_Reader_Left.j303 (a1 : S_bits_Reader) : Option Int :=
  some (w64 ((w64 (8 * (a1.s.size : Int))) - a1.at_))
def bits_Reader_Left (a1 : S_bits_Reader) : Option Int :=
  (if a1.bad = true then some 0 else bits_Reader_Left.j303 a1)
theorem bits_Reader_Left_ok {a1 : S_bits_Reader} {b0 : Nat} {r : Int} (hres : bits_Reader_Left a1 = some r) {w0 w : World} {F : List Asn} (hw : SH w0 w ([R_bits_Reader b0 a1] ++ F)) :
    Calls Try.prog 36 #[.pointer (some ⟨b0, 0, none⟩)] w fun e w' => e = .returned (.int .i64 r) ∧ SH w0 w' ([R_bits_Reader b0 a1] ++ F) := by
  refine fw_enter (n := 22) (bs := [b0]) (env := [(0, .p 0 0)]) (H := [.a (R_bits_Reader b0 a1)]) (F := F) Try.func36 rfl (by kernel_rfl) (by kernel_rfl) (by kernel_rfl) (hw.eq (by kernel_rfl)) ?_
  unfold bits_Reader_Left at hres
  refine rn_seq ?_
  refine rn_q [] [0] [(0, .p 0 0)] [] (by kernel_rfl) trivial (fin_next ?_)
  refine rn_join (V := Unit) (J := fun v => bits_Reader_Left.j303 a1 = some r) (sv := fun v => ⟨[b0], [(0, .p 0 0)], [.a (R_bits_Reader b0 a1)]⟩) ?_ ?_
  · refine rn_seq ?_
    refine rn_ex (V := Unit) (sv := fun v => ⟨[b0], [(0, .p 0 0)], [.c 0 [S a1.s, I a1.at_, B a1.bad] 113]⟩) (fun w hw => ?_) (fun _ => by kernel_rfl) (fun _ => by kernel_rfl) ?_
    · exact ⟨(), hw.sel [0] (by kernel_rfl)⟩
    rintro ⟨⟩
    refine rn_q [] [0, 10] [(0, .p 0 0), (10, B a1.bad)] [] (by kernel_rfl) trivial (fin_next ?_)
    refine rn_cond (a1.bad) (by kernel_rfl) (fun c2 => ?_) (fun c2 => ?_)
    · rw [if_pos (c2)] at hres
      refine rn_seq ?_
      refine rn_q [] [2] [(2, I 0)] [] (by kernel_rfl) trivial (fin_next ?_)
      refine rn_ret (fin_then_ret ?_)
      refine fin_fold [.a (R_bits_Reader b0 a1)] (fun w hw => hw.sel [0] (by kernel_rfl)) ?_
      refine fin_ret [.int .i64 0] (by kernel_rfl) fun w' hw' => ?_
      have hq := Option.some.inj hres
      subst hq
      exact ⟨rfl, hw'.take (L' := [R_bits_Reader b0 a1]) [0] [] (by kernel_rfl)⟩
    · rw [if_neg (nt_of_f c2)] at hres
      refine rn_skip (fin_then ?_)
      refine fin_fold [.a (R_bits_Reader b0 a1)] (fun w hw => hw.sel [0] (by kernel_rfl)) ?_
      refine fin_join () hres [0] [] (by kernel_rfl) (by kernel_rfl) (by kernel_rfl)
  · rintro ⟨⟩ hres
    unfold bits_Reader_Left.j303 at hres
    refine rn_seq ?_
    refine rn_ex (V := Unit) (sv := fun v => ⟨[b0], [(0, .p 0 0)], [.c 0 [S a1.s, I a1.at_, B a1.bad] 113]⟩) (fun w hw => ?_) (fun _ => by kernel_rfl) (fun _ => by kernel_rfl) ?_
    · exact ⟨(), hw.sel [0] (by kernel_rfl)⟩
    rintro ⟨⟩
    refine rn_held (hden [b0] [.c 0 [S a1.s, I a1.at_, B a1.bad] 113] ++ F) (by kernel_rfl) ?_
    refine rh_q [.c 0 [S a1.s, I a1.at_, B a1.bad] 113] 0 [0, 1, 2, 3, 4, 5, 6, 7, 8, 9, 10, 11] [] [2] [(2, I (w64 ((w64 (8 * (a1.s.size : Int))) - a1.at_)))] [true, true, true, true, true, true, true, true, true, true, true, true] [] rfl (by kernel_rfl) rfl [0] [] (by kernel_rfl) (by kernel_rfl) trivial ?_
    refine rh_end (by kernel_rfl) (fin_next ?_)
    refine rn_ret ?_
    refine fin_fold [.a (R_bits_Reader b0 a1)] (fun w hw => hw.sel [0] (by kernel_rfl)) ?_
    refine fin_ret [.int .i64 (w64 ((w64 (8 * (a1.s.size : Int))) - a1.at_))] (by kernel_rfl) fun w' hw' => ?_
    have hq := Option.some.inj hres
    subst hq
    exact ⟨rfl, hw'.take (L' := [R_bits_Reader b0 a1]) [0] [] (by kernel_rfl)⟩
structure S_api_Metric where
  Got : Bool
  Ecn : Int
  Ago : Int
structure S_api_Block where
  Ssrc : Int
  First : Int
  Metrics : List S_api_Metric
def e_api_Metric : Enc S_api_Metric := ⟨3, fun x => [.bool x.Got, .int .i64 x.Ecn, .int .i64 x.Ago], fun _ => rfl, fun _ v hv => by simp at hv; rcases hv with rfl | rfl | rfl <;> rfl, by decide⟩
end Fl
