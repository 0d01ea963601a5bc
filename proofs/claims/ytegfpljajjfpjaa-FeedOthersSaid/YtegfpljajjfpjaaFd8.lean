import Derived.Test.YtegfpljajjfpjaaFwT
import Derived.Test.YtegfpljajjfpjaaProg
import Derived.Test.YtegfpljajjfpjaaFd7
set_option linter.unusedVariables false
set_option maxRecDepth 100000
set_option maxHeartbeats 8000000
namespace Fl
open Go Go.Proofs Fw
/- 32 (*flywheel/flywheelref06.Writer).bit -/
def ref06_Writer_bit.j626 (a2 : Int) (j620 : S_ref06_Writer) : Option S_ref06_Writer :=
  (idx j620.b (w64 (j620.n.tdiv 8))).bind fun y622 =>
  (if (IntKind.wrap .u64 (w64 (7 - (j620.n.tmod 8)))) < 0 then none else
  (idx j620.b (w64 (j620.n.tdiv 8))).bind fun y624 =>
  (setL j620.b (w64 (j620.n.tdiv 8)) (bOr .u8 y622 (shL .u8 a2 (IntKind.wrap .u64 (w64 (7 - (j620.n.tmod 8))))))).bind fun y625 =>
  some (⟨y625, w64 (j620.n + 1)⟩ : S_ref06_Writer))
def ref06_Writer_bit (a1 : S_ref06_Writer) (a2 : Int) : Option S_ref06_Writer :=
  (if (a1.n.tmod 8) = 0 then (cat 140737488355328 a1.b [0]).bind fun y318 =>
  ref06_Writer_bit.j626 a2 (⟨y318, a1.n⟩ : S_ref06_Writer) else ref06_Writer_bit.j626 a2 a1)
theorem ref06_Writer_bit_ok {a1 : S_ref06_Writer} {a2 : Int} {b0 : Nat} {r : S_ref06_Writer} (hres : ref06_Writer_bit a1 a2 = some r) {w0 w : World} {F : List Asn} (hw : SH w0 w ([R_ref06_Writer b0 a1] ++ F)) :
    Calls Try.prog 32 #[.pointer (some ⟨b0, 0, none⟩), .int .u8 a2] w fun e w' => e = .returned (.tuple #[]) ∧ SH w0 w' ([R_ref06_Writer b0 r] ++ F) := by
  refine fw_enter (n := 48) (bs := [b0]) (env := [(0, .p 0 0), (1, U .u8 a2)]) (H := [.a (R_ref06_Writer b0 a1)]) (F := F) Try.func32 rfl (by kernel_rfl) (by kernel_rfl) (by kernel_rfl) (hw.eq (by kernel_rfl)) ?_
  unfold ref06_Writer_bit at hres
  refine rn_join (V := S_ref06_Writer) (J := fun v => ref06_Writer_bit.j626 a2 v = some r) (sv := fun v => ⟨[b0], [(0, .p 0 0), (1, U .u8 a2)], [.a (R_ref06_Writer b0 v)]⟩) ?_ ?_
  · refine rn_seq ?_
    refine rn_ex (V := Option Addr × Nat) (sv := fun v => ⟨[b0], [(0, .p 0 0), (1, U .u8 a2)], [.c 0 [.v (.slice v.1 a1.b.length v.2), I a1.n] 94, .a (slA 5 (eI .u8) v.1 v.2 a1.b)]⟩) (fun w hw => ?_) (fun _ => by kernel_rfl) (fun _ => by kernel_rfl) ?_
    · obtain ⟨A315, k315, hw⟩ := R_ref06_Writer.out (hw.sel (L' := R_ref06_Writer b0 a1 :: ([] ++ F)) [0] (by kernel_rfl))
      exact ⟨(A315, k315), hw.eq (by kernel_rfl)⟩
    rintro ⟨A315, k315⟩
    refine rn_q [] [0, 1, 9] [(0, .p 0 0), (1, U .u8 a2), (9, B ((a1.n.tmod 8) == 0))] [] (by kernel_rfl) trivial (fin_next ?_)
    refine rn_cond ((a1.n.tmod 8) == 0) (by kernel_rfl) (fun c316 => ?_) (fun c316 => ?_)
    · rw [if_pos (eq_t c316)] at hres
      refine rn_text ?_
      refine ro_q 5 [] [0, 1, 10, 14] [(0, .p 0 0), (1, U .u8 a2), (10, .p 0 0), (14, .v (.slice A315 a1.b.length k315))] [] (by kernel_rfl) trivial ?_
      refine ro_op (by kernel_rfl) (op_bslice (E := (eI .u8)) 47 5 1 #[(0, (.const (.int .u8 0)))] 15 [0] (by kernel_rfl) (by kernel_rfl) (by kernel_rfl) rfl (by decide) (by kernel_rfl) (fun b317 => ro_fin ?_))
      refine bind_elim hres fun y318 hy318 hres => ?_
      refine ro_op (by kernel_rfl) (op_append (E := (eI .u8)) (lim := 140737488355328) 47 47 5 (.tmp 14) (.tmp 15) 16 A315 (.slice (some ⟨b317, 0, none⟩) 1 1) k315 a1.b [0] ((Try.prog.info? 5).get rfl) (((Try.prog.info? 5).get rfl).zero.get rfl) 2 [.a (slA 5 (eI .u8) (some ⟨b317, 0, none⟩) 1 [0]), .c 0 [.v (.slice A315 a1.b.length k315), I a1.n] 94] (by kernel_rfl) (by kernel_rfl) (by kernel_rfl) (by kernel_rfl) (by kernel_rfl) (by kernel_rfl) (by kernel_rfl) (by kernel_rfl) (by kernel_rfl) (Nat.le_of_ble_eq_true (by kernel_rfl)) (by decide) hy318 (by kernel_rfl) (ap_sl (e := 5) (E := (eI .u8)) (B := (some ⟨b317, 0, none⟩)) (c := 1) (M := [0]) (by kernel_rfl) (by kernel_rfl) (row_at (U := 5) (E := (eI .u8)) (A := (some ⟨b317, 0, none⟩)) (c := 1) (L := [0]) 0 (by kernel_rfl))) (fun A319 k319 => ro_fin ?_))
      refine ro_q 2 [] [0, 1, 16, 18] [(0, .p 0 0), (1, U .u8 a2), (16, .v (.slice A319 y318.length k319)), (18, .p 0 0)] [] (by kernel_rfl) trivial ?_
      refine ro_op (by kernel_rfl) (op_store 47 (.tmp 18) (.tmp 16) 0 0 (.v (.slice A319 y318.length k319)) [.a (slA 5 (eI .u8) A319 k319 y318), .a (slA 5 (eI .u8) (some ⟨b317, 0, none⟩) 1 [0]), .c 0 [.v (.slice A319 y318.length k319), I a1.n] 94] (by kernel_rfl) (by kernel_rfl) (by kernel_rfl) (by kernel_rfl) (ro_fin ?_))
      refine ro_end (by kernel_rfl) (fin_then ?_)
      refine fin_fold [.a (R_ref06_Writer b0 (⟨y318, a1.n⟩ : S_ref06_Writer)), .a (slA 5 (eI .u8) (some ⟨b317, 0, none⟩) 1 [0])] (fun w hw => (R_ref06_Writer.ent (b := b0) (x := (⟨y318, a1.n⟩ : S_ref06_Writer)) _ _ _ (hw.sel (L' := R_ref06_Writer.b b0 (⟨y318, a1.n⟩ : S_ref06_Writer) A319 k319 ++ ([slA 5 (eI .u8) (some ⟨b317, 0, none⟩) 1 [0]] ++ F)) [2, 0] (by kernel_rfl))).eq (by kernel_rfl)) ?_
      refine fin_join (⟨y318, a1.n⟩ : S_ref06_Writer) hres [0] [slA 5 (eI .u8) (some ⟨b317, 0, none⟩) 1 [0]] (by kernel_rfl) (by kernel_rfl) (by kernel_rfl)
    · rw [if_neg (eq_f c316)] at hres
      refine rn_skip (fin_then ?_)
      refine fin_fold [.a (R_ref06_Writer b0 a1)] (fun w hw => (R_ref06_Writer.ent (b := b0) (x := a1) _ _ _ (hw.sel (L' := R_ref06_Writer.b b0 a1 A315 k315 ++ ([] ++ F)) [0, 0] (by kernel_rfl))).eq (by kernel_rfl)) ?_
      refine fin_join a1 hres [0] [] (by kernel_rfl) (by kernel_rfl) (by kernel_rfl)
  · rintro j620 hres
    unfold ref06_Writer_bit.j626 at hres
    refine rn_seq ?_
    refine rn_ex (V := Option Addr × Nat) (sv := fun v => ⟨[b0], [(0, .p 0 0), (1, U .u8 a2)], [.c 0 [.v (.slice v.1 j620.b.length v.2), I j620.n] 94, .a (slA 5 (eI .u8) v.1 v.2 j620.b)]⟩) (fun w hw => ?_) (fun _ => by kernel_rfl) (fun _ => by kernel_rfl) ?_
    · obtain ⟨A621, k621, hw⟩ := R_ref06_Writer.out (hw.sel (L' := R_ref06_Writer b0 j620 :: ([] ++ F)) [0] (by kernel_rfl))
      exact ⟨(A621, k621), hw.eq (by kernel_rfl)⟩
    rintro ⟨A621, k621⟩
    refine bind_elim hres fun y622 hy622 hres => ?_
    have hy623 : ¬ (IntKind.wrap .u64 (w64 (7 - (j620.n.tmod 8)))) < 0 := by intro hz; rw [if_pos hz] at hres; cases hres
    rw [if_neg hy623] at hres
    refine bind_elim hres fun y624 hy624 hres => ?_
    refine bind_elim hres fun y625 hy625 hres => ?_
    refine rn_meet (V := Unit) (J := fun _ => True) (sv := fun v => ⟨[b0], [(0, .p 0 0)], [.a (slA 5 (eI .u8) A621 k621 y625), .c 0 [.v (.slice A621 y625.length k621), I j620.n] 94]⟩) ?_ ?_
    · refine rn_held (hden [b0] [] ++ F) (by kernel_rfl) ?_
      refine rh_q [] 13 [0, 1, 2, 4, 5, 6, 11, 12, 13, 14] [] [0, 21, 25, 30, 33] [(0, .p 0 0), (21, .p 0 0), (25, .p 0 1), (30, U .u8 a2), (33, .p 0 1)] [true, true, true, false, true, true, true, false, false, false, false, true, true, true, true, false, false, false, false, false, false, false, false] [] rfl (by kernel_rfl) rfl [] [cellsA b0 [.slice A621 j620.b.length k621, .int .i64 j620.n] 94, slA 5 (eI .u8) A621 k621 j620.b] (by kernel_rfl) (by kernel_rfl) trivial ?_
      refine rh_3 3 7 15 (by kernel_rfl) ?_ ?_ ?_
      · refine op_quiet none (.v (.slice A621 j620.b.length k621)) _ _ rfl (by kernel_rfl) (by kernel_rfl) (by kernel_rfl) (by kernel_rfl) (fun _ hy => by cases hy) rfl (fin_held [] [true, true, true, true, true, true, true, false, false, false, false, true, true, true, true, false, false, false, false, false, false, false, false] (by kernel_rfl) rfl [] [cellsA b0 [.slice A621 j620.b.length k621, .int .i64 j620.n] 94, slA 5 (eI .u8) A621 k621 j620.b] (by kernel_rfl) ?_)
        refine rh_2 7 15 (by kernel_rfl) ?_ ?_
        · refine op_quiet none (I j620.n) _ _ rfl (by kernel_rfl) (by kernel_rfl) (by kernel_rfl) (by kernel_rfl) (fun _ hy => by cases hy) rfl (fin_held [] [true, true, true, true, true, true, true, true, false, false, false, true, true, true, true, false, false, false, false, false, false, false, false] (by kernel_rfl) rfl [] [cellsA b0 [.slice A621 j620.b.length k621, .int .i64 j620.n] 94, slA 5 (eI .u8) A621 k621 j620.b] (by kernel_rfl) ?_)
          refine rh_q [] 10 [8] [] [0, 22, 27, 30, 33] [(0, .p 0 0), (22, .v (.slice A621 j620.b.length k621)), (27, I (w64 (j620.n.tdiv 8))), (30, U .u8 a2), (33, .p 0 1)] [true, true, true, true, true, true, true, true, true, false, false, true, true, true, true, false, false, false, false, false, false, false, false] [] rfl (by kernel_rfl) rfl [] [cellsA b0 [.slice A621 j620.b.length k621, .int .i64 j620.n] 94, slA 5 (eI .u8) A621 k621 j620.b] (by kernel_rfl) (by kernel_rfl) trivial ?_
          refine rh_2 9 15 (by kernel_rfl) ?_ ?_
          · refine op_hint (.v (elP A621 ((w64 (j620.n.tdiv 8)).toNat * 1 + 0))) _ _ (smIa 47 (.slice A621 j620.b.length k621) (.int .i64 (w64 (j620.n.tdiv 8)))) (elP A621 ((w64 (j620.n.tdiv 8)).toNat * 1 + 0)) rfl (by kernel_rfl) (by kernel_rfl) (by kernel_rfl) (by kernel_rfl) (by kernel_rfl) (ob_ia (E := (eI .u8)) (U := 5) (i := (w64 (j620.n.tdiv 8))) (sz := 1) (by kernel_rfl) (by kernel_rfl) (by kernel_rfl) (row_at (U := 5) (E := (eI .u8)) (A := A621) (c := k621) (L := j620.b) 1 (by kernel_rfl)) hy622) rfl (fin_held [] [true, true, true, true, true, true, true, true, true, true, false, true, true, true, true, false, false, false, false, false, false, false, false] (by kernel_rfl) rfl [] [cellsA b0 [.slice A621 j620.b.length k621, .int .i64 j620.n] 94, slA 5 (eI .u8) A621 k621 j620.b] (by kernel_rfl) ?_)
            refine rh_2 10 15 (by kernel_rfl) ?_ ?_
            · refine op_hint (U .u8 y622) _ _ (smLd 5 (elP A621 ((w64 (j620.n.tdiv 8)).toNat * 1 + 0))) (.int .u8 y622) rfl (by kernel_rfl) (by kernel_rfl) (by kernel_rfl) (by kernel_rfl) (by kernel_rfl) (ob_ld1 (E := (eI .u8)) (i := (w64 (j620.n.tdiv 8))) (sz := 1) (o := 0) (d := (.int .u8)) (by kernel_rfl) (by kernel_rfl) (by kernel_rfl) (by kernel_rfl) (row_at (U := 5) (E := (eI .u8)) (A := A621) (c := k621) (L := j620.b) 1 (by kernel_rfl)) hy622) rfl (fin_held [] [true, true, true, true, true, true, true, true, true, true, true, true, true, true, true, false, false, false, false, false, false, false, false] (by kernel_rfl) rfl [] [cellsA b0 [.slice A621 j620.b.length k621, .int .i64 j620.n] 94, slA 5 (eI .u8) A621 k621 j620.b] (by kernel_rfl) ?_)
              refine rh_1 15 (by kernel_rfl) ?_
              refine op_quiet none (I j620.n) _ _ rfl (by kernel_rfl) (by kernel_rfl) (by kernel_rfl) (by kernel_rfl) (fun _ hy => by cases hy) rfl (fin_held [] [true, true, true, true, true, true, true, true, true, true, true, true, true, true, true, true, false, false, false, false, false, false, false] (by kernel_rfl) rfl [] [cellsA b0 [.slice A621 j620.b.length k621, .int .i64 j620.n] 94, slA 5 (eI .u8) A621 k621 j620.b] (by kernel_rfl) ?_)
              refine rh_q [] 2 [16, 17, 18, 19, 20] [(19, U .u8 (shL .u8 a2 (IntKind.wrap .u64 (w64 (7 - (j620.n.tmod 8))))))] [0, 22, 27, 39] [(0, .p 0 0), (22, .v (.slice A621 j620.b.length k621)), (27, I (w64 (j620.n.tdiv 8))), (39, U .u8 (bOr .u8 y622 (shL .u8 a2 (IntKind.wrap .u64 (w64 (7 - (j620.n.tmod 8)))))))] [true, true, true, true, true, true, true, true, true, true, true, true, true, true, true, true, true, true, true, true, true, false, false] [(smShl .u8 a2 .u64 (IntKind.wrap .u64 (w64 (7 - (j620.n.tmod 8)))), .int .u8 (shL .u8 a2 (IntKind.wrap .u64 (w64 (7 - (j620.n.tmod 8))))))] rfl (by kernel_rfl) rfl [] [cellsA b0 [.slice A621 j620.b.length k621, .int .i64 j620.n] 94, slA 5 (eI .u8) A621 k621 j620.b] (by kernel_rfl) (by kernel_rfl) ⟨ob_shl hy623, trivial⟩ ?_
              refine rh_1 21 (by kernel_rfl) ?_
              refine op_hint (.v (elP A621 ((w64 (j620.n.tdiv 8)).toNat * 1 + 0))) _ _ (smIa 47 (.slice A621 j620.b.length k621) (.int .i64 (w64 (j620.n.tdiv 8)))) (elP A621 ((w64 (j620.n.tdiv 8)).toNat * 1 + 0)) rfl (by kernel_rfl) (by kernel_rfl) (by kernel_rfl) (by kernel_rfl) (by kernel_rfl) (ob_ia (E := (eI .u8)) (U := 5) (i := (w64 (j620.n.tdiv 8))) (sz := 1) (by kernel_rfl) (by kernel_rfl) (by kernel_rfl) (row_at (U := 5) (E := (eI .u8)) (A := A621) (c := k621) (L := j620.b) 1 (by kernel_rfl)) hy624) rfl (fin_held [] [true, true, true, true, true, true, true, true, true, true, true, true, true, true, true, true, true, true, true, true, true, true, false] (by kernel_rfl) rfl [] [cellsA b0 [.slice A621 j620.b.length k621, .int .i64 j620.n] 94, slA 5 (eI .u8) A621 k621 j620.b] (by kernel_rfl) ?_)
              refine rh_1 22 (by kernel_rfl) ?_
              refine op_storeEl (E := (eI .u8)) 5 5 (.tmp 40) (.tmp 39) 1 0 A621 k621 j620.b (w64 (j620.n.tdiv 8)) y624 (bOr .u8 y622 (shL .u8 a2 (IntKind.wrap .u64 (w64 (7 - (j620.n.tmod 8)))))) (U .u8 (bOr .u8 y622 (shL .u8 a2 (IntKind.wrap .u64 (w64 (7 - (j620.n.tmod 8))))))) ((Try.prog.info? 5).get rfl) 1 [.c 0 [.v (.slice A621 j620.b.length k621), I j620.n] 94] [.c 0 [.v (.slice A621 y625.length k621), I j620.n] 94] [(0, .p 0 0), (22, .v (.slice A621 y625.length k621)), (27, I (w64 (j620.n.tdiv 8))), (39, U .u8 (bOr .u8 y622 (shL .u8 a2 (IntKind.wrap .u64 (w64 (7 - (j620.n.tmod 8))))))), (40, .v (elP A621 ((w64 (j620.n.tdiv 8)).toNat * 1 + 0)))] (by kernel_rfl) (by kernel_rfl) (by kernel_rfl) (by kernel_rfl) (by kernel_rfl) hy624 hy625 (by kernel_rfl) (by kernel_rfl) (by kernel_rfl) (by kernel_rfl) (by kernel_rfl) (fun e => by first | (simp only [e]; done) | (simp only [e]; kernel_rfl) | kernel_rfl) (fun e => by first | (simp only [e]; done) | (simp only [e]; kernel_rfl) | kernel_rfl) (fin_held [] [true, true, true, true, true, true, true, true, true, true, true, true, true, true, true, true, true, true, true, true, true, true, true] (by kernel_rfl) rfl [] [slA 5 (eI .u8) A621 k621 y625, cellsA b0 [.slice A621 y625.length k621, .int .i64 j620.n] 94] (by kernel_rfl) ?_)
              refine rh_end (by kernel_rfl) (fin_then ?_)
              exact fin_join () trivial [0, 0] [] (by kernel_rfl) (by kernel_rfl) (by kernel_rfl)
            · refine op_quiet none (I j620.n) _ _ rfl (by kernel_rfl) (by kernel_rfl) (by kernel_rfl) (by kernel_rfl) (fun _ hy => by cases hy) rfl (fin_held [] [true, true, true, true, true, true, true, true, true, true, false, true, true, true, true, true, false, false, false, false, false, false, false] (by kernel_rfl) rfl [] [cellsA b0 [.slice A621 j620.b.length k621, .int .i64 j620.n] 94, slA 5 (eI .u8) A621 k621 j620.b] (by kernel_rfl) ?_)
              refine rh_q [] 4 [16, 17, 18, 19] [(19, U .u8 (shL .u8 a2 (IntKind.wrap .u64 (w64 (7 - (j620.n.tmod 8))))))] [0, 22, 27, 28, 38] [(0, .p 0 0), (22, .v (.slice A621 j620.b.length k621)), (27, I (w64 (j620.n.tdiv 8))), (28, .v (elP A621 ((w64 (j620.n.tdiv 8)).toNat * 1 + 0))), (38, U .u8 (shL .u8 a2 (IntKind.wrap .u64 (w64 (7 - (j620.n.tmod 8))))))] [true, true, true, true, true, true, true, true, true, true, false, true, true, true, true, true, true, true, true, true, false, false, false] [(smShl .u8 a2 .u64 (IntKind.wrap .u64 (w64 (7 - (j620.n.tmod 8)))), .int .u8 (shL .u8 a2 (IntKind.wrap .u64 (w64 (7 - (j620.n.tmod 8))))))] rfl (by kernel_rfl) rfl [] [cellsA b0 [.slice A621 j620.b.length k621, .int .i64 j620.n] 94, slA 5 (eI .u8) A621 k621 j620.b] (by kernel_rfl) (by kernel_rfl) ⟨ob_shl hy623, trivial⟩ ?_
              refine rh_1 10 (by kernel_rfl) ?_
              refine op_hint (U .u8 y622) _ _ (smLd 5 (elP A621 ((w64 (j620.n.tdiv 8)).toNat * 1 + 0))) (.int .u8 y622) rfl (by kernel_rfl) (by kernel_rfl) (by kernel_rfl) (by kernel_rfl) (by kernel_rfl) (ob_ld1 (E := (eI .u8)) (i := (w64 (j620.n.tdiv 8))) (sz := 1) (o := 0) (d := (.int .u8)) (by kernel_rfl) (by kernel_rfl) (by kernel_rfl) (by kernel_rfl) (row_at (U := 5) (E := (eI .u8)) (A := A621) (c := k621) (L := j620.b) 1 (by kernel_rfl)) hy622) rfl (fin_held [] [true, true, true, true, true, true, true, true, true, true, true, true, true, true, true, true, true, true, true, true, false, false, false] (by kernel_rfl) rfl [] [cellsA b0 [.slice A621 j620.b.length k621, .int .i64 j620.n] 94, slA 5 (eI .u8) A621 k621 j620.b] (by kernel_rfl) ?_)
              refine rh_q [] 2 [20] [] [0, 22, 27, 39] [(0, .p 0 0), (22, .v (.slice A621 j620.b.length k621)), (27, I (w64 (j620.n.tdiv 8))), (39, U .u8 (bOr .u8 y622 (shL .u8 a2 (IntKind.wrap .u64 (w64 (7 - (j620.n.tmod 8)))))))] [true, true, true, true, true, true, true, true, true, true, true, true, true, true, true, true, true, true, true, true, true, false, false] [] rfl (by kernel_rfl) rfl [] [cellsA b0 [.slice A621 j620.b.length k621, .int .i64 j620.n] 94, slA 5 (eI .u8) A621 k621 j620.b] (by kernel_rfl) (by kernel_rfl) trivial ?_
              refine rh_1 21 (by kernel_rfl) ?_
              refine op_hint (.v (elP A621 ((w64 (j620.n.tdiv 8)).toNat * 1 + 0))) _ _ (smIa 47 (.slice A621 j620.b.length k621) (.int .i64 (w64 (j620.n.tdiv 8)))) (elP A621 ((w64 (j620.n.tdiv 8)).toNat * 1 + 0)) rfl (by kernel_rfl) (by kernel_rfl) (by kernel_rfl) (by kernel_rfl) (by kernel_rfl) (ob_ia (E := (eI .u8)) (U := 5) (i := (w64 (j620.n.tdiv 8))) (sz := 1) (by kernel_rfl) (by kernel_rfl) (by kernel_rfl) (row_at (U := 5) (E := (eI .u8)) (A := A621) (c := k621) (L := j620.b) 1 (by kernel_rfl)) hy624) rfl (fin_held [] [true, true, true, true, true, true, true, true, true, true, true, true, true, true, true, true, true, true, true, true, true, true, false] (by kernel_rfl) rfl [] [cellsA b0 [.slice A621 j620.b.length k621, .int .i64 j620.n] 94, slA 5 (eI .u8) A621 k621 j620.b] (by kernel_rfl) ?_)
              refine rh_1 22 (by kernel_rfl) ?_
              refine op_storeEl (E := (eI .u8)) 5 5 (.tmp 40) (.tmp 39) 1 0 A621 k621 j620.b (w64 (j620.n.tdiv 8)) y624 (bOr .u8 y622 (shL .u8 a2 (IntKind.wrap .u64 (w64 (7 - (j620.n.tmod 8)))))) (U .u8 (bOr .u8 y622 (shL .u8 a2 (IntKind.wrap .u64 (w64 (7 - (j620.n.tmod 8))))))) ((Try.prog.info? 5).get rfl) 1 [.c 0 [.v (.slice A621 j620.b.length k621), I j620.n] 94] [.c 0 [.v (.slice A621 y625.length k621), I j620.n] 94] [(0, .p 0 0), (22, .v (.slice A621 y625.length k621)), (27, I (w64 (j620.n.tdiv 8))), (39, U .u8 (bOr .u8 y622 (shL .u8 a2 (IntKind.wrap .u64 (w64 (7 - (j620.n.tmod 8))))))), (40, .v (elP A621 ((w64 (j620.n.tdiv 8)).toNat * 1 + 0)))] (by kernel_rfl) (by kernel_rfl) (by kernel_rfl) (by kernel_rfl) (by kernel_rfl) hy624 hy625 (by kernel_rfl) (by kernel_rfl) (by kernel_rfl) (by kernel_rfl) (by kernel_rfl) (fun e => by first | (simp only [e]; done) | (simp only [e]; kernel_rfl) | kernel_rfl) (fun e => by first | (simp only [e]; done) | (simp only [e]; kernel_rfl) | kernel_rfl) (fin_held [] [true, true, true, true, true, true, true, true, true, true, true, true, true, true, true, true, true, true, true, true, true, true, true] (by kernel_rfl) rfl [] [slA 5 (eI .u8) A621 k621 y625, cellsA b0 [.slice A621 y625.length k621, .int .i64 j620.n] 94] (by kernel_rfl) ?_)
              refine rh_end (by kernel_rfl) (fin_then ?_)
              exact fin_join () trivial [0, 0] [] (by kernel_rfl) (by kernel_rfl) (by kernel_rfl)
          · refine op_quiet none (I j620.n) _ _ rfl (by kernel_rfl) (by kernel_rfl) (by kernel_rfl) (by kernel_rfl) (fun _ hy => by cases hy) rfl (fin_held [] [true, true, true, true, true, true, true, true, true, false, false, true, true, true, true, true, false, false, false, false, false, false, false] (by kernel_rfl) rfl [] [cellsA b0 [.slice A621 j620.b.length k621, .int .i64 j620.n] 94, slA 5 (eI .u8) A621 k621 j620.b] (by kernel_rfl) ?_)
            refine rh_q [] 5 [16, 17, 18, 19] [(19, U .u8 (shL .u8 a2 (IntKind.wrap .u64 (w64 (7 - (j620.n.tmod 8))))))] [0, 22, 27, 38] [(0, .p 0 0), (22, .v (.slice A621 j620.b.length k621)), (27, I (w64 (j620.n.tdiv 8))), (38, U .u8 (shL .u8 a2 (IntKind.wrap .u64 (w64 (7 - (j620.n.tmod 8))))))] [true, true, true, true, true, true, true, true, true, false, false, true, true, true, true, true, true, true, true, true, false, false, false] [(smShl .u8 a2 .u64 (IntKind.wrap .u64 (w64 (7 - (j620.n.tmod 8)))), .int .u8 (shL .u8 a2 (IntKind.wrap .u64 (w64 (7 - (j620.n.tmod 8))))))] rfl (by kernel_rfl) rfl [] [cellsA b0 [.slice A621 j620.b.length k621, .int .i64 j620.n] 94, slA 5 (eI .u8) A621 k621 j620.b] (by kernel_rfl) (by kernel_rfl) ⟨ob_shl hy623, trivial⟩ ?_
            refine rh_1 9 (by kernel_rfl) ?_
            refine op_hint (.v (elP A621 ((w64 (j620.n.tdiv 8)).toNat * 1 + 0))) _ _ (smIa 47 (.slice A621 j620.b.length k621) (.int .i64 (w64 (j620.n.tdiv 8)))) (elP A621 ((w64 (j620.n.tdiv 8)).toNat * 1 + 0)) rfl (by kernel_rfl) (by kernel_rfl) (by kernel_rfl) (by kernel_rfl) (by kernel_rfl) (ob_ia (E := (eI .u8)) (U := 5) (i := (w64 (j620.n.tdiv 8))) (sz := 1) (by kernel_rfl) (by kernel_rfl) (by kernel_rfl) (row_at (U := 5) (E := (eI .u8)) (A := A621) (c := k621) (L := j620.b) 1 (by kernel_rfl)) hy622) rfl (fin_held [] [true, true, true, true, true, true, true, true, true, true, false, true, true, true, true, true, true, true, true, true, false, false, false] (by kernel_rfl) rfl [] [cellsA b0 [.slice A621 j620.b.length k621, .int .i64 j620.n] 94, slA 5 (eI .u8) A621 k621 j620.b] (by kernel_rfl) ?_)
            refine rh_1 10 (by kernel_rfl) ?_
            refine op_hint (U .u8 y622) _ _ (smLd 5 (elP A621 ((w64 (j620.n.tdiv 8)).toNat * 1 + 0))) (.int .u8 y622) rfl (by kernel_rfl) (by kernel_rfl) (by kernel_rfl) (by kernel_rfl) (by kernel_rfl) (ob_ld1 (E := (eI .u8)) (i := (w64 (j620.n.tdiv 8))) (sz := 1) (o := 0) (d := (.int .u8)) (by kernel_rfl) (by kernel_rfl) (by kernel_rfl) (by kernel_rfl) (row_at (U := 5) (E := (eI .u8)) (A := A621) (c := k621) (L := j620.b) 1 (by kernel_rfl)) hy622) rfl (fin_held [] [true, true, true, true, true, true, true, true, true, true, true, true, true, true, true, true, true, true, true, true, false, false, false] (by kernel_rfl) rfl [] [cellsA b0 [.slice A621 j620.b.length k621, .int .i64 j620.n] 94, slA 5 (eI .u8) A621 k621 j620.b] (by kernel_rfl) ?_)
            refine rh_q [] 2 [20] [] [0, 22, 27, 39] [(0, .p 0 0), (22, .v (.slice A621 j620.b.length k621)), (27, I (w64 (j620.n.tdiv 8))), (39, U .u8 (bOr .u8 y622 (shL .u8 a2 (IntKind.wrap .u64 (w64 (7 - (j620.n.tmod 8)))))))] [true, true, true, true, true, true, true, true, true, true, true, true, true, true, true, true, true, true, true, true, true, false, false] [] rfl (by kernel_rfl) rfl [] [cellsA b0 [.slice A621 j620.b.length k621, .int .i64 j620.n] 94, slA 5 (eI .u8) A621 k621 j620.b] (by kernel_rfl) (by kernel_rfl) trivial ?_
            refine rh_1 21 (by kernel_rfl) ?_
            refine op_hint (.v (elP A621 ((w64 (j620.n.tdiv 8)).toNat * 1 + 0))) _ _ (smIa 47 (.slice A621 j620.b.length k621) (.int .i64 (w64 (j620.n.tdiv 8)))) (elP A621 ((w64 (j620.n.tdiv 8)).toNat * 1 + 0)) rfl (by kernel_rfl) (by kernel_rfl) (by kernel_rfl) (by kernel_rfl) (by kernel_rfl) (ob_ia (E := (eI .u8)) (U := 5) (i := (w64 (j620.n.tdiv 8))) (sz := 1) (by kernel_rfl) (by kernel_rfl) (by kernel_rfl) (row_at (U := 5) (E := (eI .u8)) (A := A621) (c := k621) (L := j620.b) 1 (by kernel_rfl)) hy624) rfl (fin_held [] [true, true, true, true, true, true, true, true, true, true, true, true, true, true, true, true, true, true, true, true, true, true, false] (by kernel_rfl) rfl [] [cellsA b0 [.slice A621 j620.b.length k621, .int .i64 j620.n] 94, slA 5 (eI .u8) A621 k621 j620.b] (by kernel_rfl) ?_)
            refine rh_1 22 (by kernel_rfl) ?_
            refine op_storeEl (E := (eI .u8)) 5 5 (.tmp 40) (.tmp 39) 1 0 A621 k621 j620.b (w64 (j620.n.tdiv 8)) y624 (bOr .u8 y622 (shL .u8 a2 (IntKind.wrap .u64 (w64 (7 - (j620.n.tmod 8)))))) (U .u8 (bOr .u8 y622 (shL .u8 a2 (IntKind.wrap .u64 (w64 (7 - (j620.n.tmod 8))))))) ((Try.prog.info? 5).get rfl) 1 [.c 0 [.v (.slice A621 j620.b.length k621), I j620.n] 94] [.c 0 [.v (.slice A621 y625.length k621), I j620.n] 94] [(0, .p 0 0), (22, .v (.slice A621 y625.length k621)), (27, I (w64 (j620.n.tdiv 8))), (39, U .u8 (bOr .u8 y622 (shL .u8 a2 (IntKind.wrap .u64 (w64 (7 - (j620.n.tmod 8))))))), (40, .v (elP A621 ((w64 (j620.n.tdiv 8)).toNat * 1 + 0)))] (by kernel_rfl) (by kernel_rfl) (by kernel_rfl) (by kernel_rfl) (by kernel_rfl) hy624 hy625 (by kernel_rfl) (by kernel_rfl) (by kernel_rfl) (by kernel_rfl) (by kernel_rfl) (fun e => by first | (simp only [e]; done) | (simp only [e]; kernel_rfl) | kernel_rfl) (fun e => by first | (simp only [e]; done) | (simp only [e]; kernel_rfl) | kernel_rfl) (fin_held [] [true, true, true, true, true, true, true, true, true, true, true, true, true, true, true, true, true, true, true, true, true, true, true] (by kernel_rfl) rfl [] [slA 5 (eI .u8) A621 k621 y625, cellsA b0 [.slice A621 y625.length k621, .int .i64 j620.n] 94] (by kernel_rfl) ?_)
            refine rh_end (by kernel_rfl) (fin_then ?_)
            exact fin_join () trivial [0, 0] [] (by kernel_rfl) (by kernel_rfl) (by kernel_rfl)
        · refine op_quiet none (I j620.n) _ _ rfl (by kernel_rfl) (by kernel_rfl) (by kernel_rfl) (by kernel_rfl) (fun _ hy => by cases hy) rfl (fin_held [] [true, true, true, true, true, true, true, false, false, false, false, true, true, true, true, true, false, false, false, false, false, false, false] (by kernel_rfl) rfl [] [cellsA b0 [.slice A621 j620.b.length k621, .int .i64 j620.n] 94, slA 5 (eI .u8) A621 k621 j620.b] (by kernel_rfl) ?_)
          refine rh_q [] 7 [16, 17, 18, 19] [(19, U .u8 (shL .u8 a2 (IntKind.wrap .u64 (w64 (7 - (j620.n.tmod 8))))))] [0, 22, 25, 38] [(0, .p 0 0), (22, .v (.slice A621 j620.b.length k621)), (25, .p 0 1), (38, U .u8 (shL .u8 a2 (IntKind.wrap .u64 (w64 (7 - (j620.n.tmod 8))))))] [true, true, true, true, true, true, true, false, false, false, false, true, true, true, true, true, true, true, true, true, false, false, false] [(smShl .u8 a2 .u64 (IntKind.wrap .u64 (w64 (7 - (j620.n.tmod 8)))), .int .u8 (shL .u8 a2 (IntKind.wrap .u64 (w64 (7 - (j620.n.tmod 8))))))] rfl (by kernel_rfl) rfl [] [cellsA b0 [.slice A621 j620.b.length k621, .int .i64 j620.n] 94, slA 5 (eI .u8) A621 k621 j620.b] (by kernel_rfl) (by kernel_rfl) ⟨ob_shl hy623, trivial⟩ ?_
          refine rh_1 7 (by kernel_rfl) ?_
          refine op_quiet none (I j620.n) _ _ rfl (by kernel_rfl) (by kernel_rfl) (by kernel_rfl) (by kernel_rfl) (fun _ hy => by cases hy) rfl (fin_held [] [true, true, true, true, true, true, true, true, false, false, false, true, true, true, true, true, true, true, true, true, false, false, false] (by kernel_rfl) rfl [] [cellsA b0 [.slice A621 j620.b.length k621, .int .i64 j620.n] 94, slA 5 (eI .u8) A621 k621 j620.b] (by kernel_rfl) ?_)
          refine rh_q [] 5 [8] [] [0, 22, 27, 38] [(0, .p 0 0), (22, .v (.slice A621 j620.b.length k621)), (27, I (w64 (j620.n.tdiv 8))), (38, U .u8 (shL .u8 a2 (IntKind.wrap .u64 (w64 (7 - (j620.n.tmod 8))))))] [true, true, true, true, true, true, true, true, true, false, false, true, true, true, true, true, true, true, true, true, false, false, false] [] rfl (by kernel_rfl) rfl [] [cellsA b0 [.slice A621 j620.b.length k621, .int .i64 j620.n] 94, slA 5 (eI .u8) A621 k621 j620.b] (by kernel_rfl) (by kernel_rfl) trivial ?_
          refine rh_1 9 (by kernel_rfl) ?_
          refine op_hint (.v (elP A621 ((w64 (j620.n.tdiv 8)).toNat * 1 + 0))) _ _ (smIa 47 (.slice A621 j620.b.length k621) (.int .i64 (w64 (j620.n.tdiv 8)))) (elP A621 ((w64 (j620.n.tdiv 8)).toNat * 1 + 0)) rfl (by kernel_rfl) (by kernel_rfl) (by kernel_rfl) (by kernel_rfl) (by kernel_rfl) (ob_ia (E := (eI .u8)) (U := 5) (i := (w64 (j620.n.tdiv 8))) (sz := 1) (by kernel_rfl) (by kernel_rfl) (by kernel_rfl) (row_at (U := 5) (E := (eI .u8)) (A := A621) (c := k621) (L := j620.b) 1 (by kernel_rfl)) hy622) rfl (fin_held [] [true, true, true, true, true, true, true, true, true, true, false, true, true, true, true, true, true, true, true, true, false, false, false] (by kernel_rfl) rfl [] [cellsA b0 [.slice A621 j620.b.length k621, .int .i64 j620.n] 94, slA 5 (eI .u8) A621 k621 j620.b] (by kernel_rfl) ?_)
          refine rh_1 10 (by kernel_rfl) ?_
          refine op_hint (U .u8 y622) _ _ (smLd 5 (elP A621 ((w64 (j620.n.tdiv 8)).toNat * 1 + 0))) (.int .u8 y622) rfl (by kernel_rfl) (by kernel_rfl) (by kernel_rfl) (by kernel_rfl) (by kernel_rfl) (ob_ld1 (E := (eI .u8)) (i := (w64 (j620.n.tdiv 8))) (sz := 1) (o := 0) (d := (.int .u8)) (by kernel_rfl) (by kernel_rfl) (by kernel_rfl) (by kernel_rfl) (row_at (U := 5) (E := (eI .u8)) (A := A621) (c := k621) (L := j620.b) 1 (by kernel_rfl)) hy622) rfl (fin_held [] [true, true, true, true, true, true, true, true, true, true, true, true, true, true, true, true, true, true, true, true, false, false, false] (by kernel_rfl) rfl [] [cellsA b0 [.slice A621 j620.b.length k621, .int .i64 j620.n] 94, slA 5 (eI .u8) A621 k621 j620.b] (by kernel_rfl) ?_)
          refine rh_q [] 2 [20] [] [0, 22, 27, 39] [(0, .p 0 0), (22, .v (.slice A621 j620.b.length k621)), (27, I (w64 (j620.n.tdiv 8))), (39, U .u8 (bOr .u8 y622 (shL .u8 a2 (IntKind.wrap .u64 (w64 (7 - (j620.n.tmod 8)))))))] [true, true, true, true, true, true, true, true, true, true, true, true, true, true, true, true, true, true, true, true, true, false, false] [] rfl (by kernel_rfl) rfl [] [cellsA b0 [.slice A621 j620.b.length k621, .int .i64 j620.n] 94, slA 5 (eI .u8) A621 k621 j620.b] (by kernel_rfl) (by kernel_rfl) trivial ?_
          refine rh_1 21 (by kernel_rfl) ?_
          refine op_hint (.v (elP A621 ((w64 (j620.n.tdiv 8)).toNat * 1 + 0))) _ _ (smIa 47 (.slice A621 j620.b.length k621) (.int .i64 (w64 (j620.n.tdiv 8)))) (elP A621 ((w64 (j620.n.tdiv 8)).toNat * 1 + 0)) rfl (by kernel_rfl) (by kernel_rfl) (by kernel_rfl) (by kernel_rfl) (by kernel_rfl) (ob_ia (E := (eI .u8)) (U := 5) (i := (w64 (j620.n.tdiv 8))) (sz := 1) (by kernel_rfl) (by kernel_rfl) (by kernel_rfl) (row_at (U := 5) (E := (eI .u8)) (A := A621) (c := k621) (L := j620.b) 1 (by kernel_rfl)) hy624) rfl (fin_held [] [true, true, true, true, true, true, true, true, true, true, true, true, true, true, true, true, true, true, true, true, true, true, false] (by kernel_rfl) rfl [] [cellsA b0 [.slice A621 j620.b.length k621, .int .i64 j620.n] 94, slA 5 (eI .u8) A621 k621 j620.b] (by kernel_rfl) ?_)
          refine rh_1 22 (by kernel_rfl) ?_
          refine op_storeEl (E := (eI .u8)) 5 5 (.tmp 40) (.tmp 39) 1 0 A621 k621 j620.b (w64 (j620.n.tdiv 8)) y624 (bOr .u8 y622 (shL .u8 a2 (IntKind.wrap .u64 (w64 (7 - (j620.n.tmod 8)))))) (U .u8 (bOr .u8 y622 (shL .u8 a2 (IntKind.wrap .u64 (w64 (7 - (j620.n.tmod 8))))))) ((Try.prog.info? 5).get rfl) 1 [.c 0 [.v (.slice A621 j620.b.length k621), I j620.n] 94] [.c 0 [.v (.slice A621 y625.length k621), I j620.n] 94] [(0, .p 0 0), (22, .v (.slice A621 y625.length k621)), (27, I (w64 (j620.n.tdiv 8))), (39, U .u8 (bOr .u8 y622 (shL .u8 a2 (IntKind.wrap .u64 (w64 (7 - (j620.n.tmod 8))))))), (40, .v (elP A621 ((w64 (j620.n.tdiv 8)).toNat * 1 + 0)))] (by kernel_rfl) (by kernel_rfl) (by kernel_rfl) (by kernel_rfl) (by kernel_rfl) hy624 hy625 (by kernel_rfl) (by kernel_rfl) (by kernel_rfl) (by kernel_rfl) (by kernel_rfl) (fun e => by first | (simp only [e]; done) | (simp only [e]; kernel_rfl) | kernel_rfl) (fun e => by first | (simp only [e]; done) | (simp only [e]; kernel_rfl) | kernel_rfl) (fin_held [] [true, true, true, true, true, true, true, true, true, true, true, true, true, true, true, true, true, true, true, true, true, true, true] (by kernel_rfl) rfl [] [slA 5 (eI .u8) A621 k621 y625, cellsA b0 [.slice A621 y625.length k621, .int .i64 j620.n] 94] (by kernel_rfl) ?_)
          refine rh_end (by kernel_rfl) (fin_then ?_)
          exact fin_join () trivial [0, 0] [] (by kernel_rfl) (by kernel_rfl) (by kernel_rfl)
      · refine op_quiet none (I j620.n) _ _ rfl (by kernel_rfl) (by kernel_rfl) (by kernel_rfl) (by kernel_rfl) (fun _ hy => by cases hy) rfl (fin_held [] [true, true, true, false, true, true, true, true, false, false, false, true, true, true, true, false, false, false, false, false, false, false, false] (by kernel_rfl) rfl [] [cellsA b0 [.slice A621 j620.b.length k621, .int .i64 j620.n] 94, slA 5 (eI .u8) A621 k621 j620.b] (by kernel_rfl) ?_)
        refine rh_q [] 11 [8] [] [0, 21, 27, 30, 33] [(0, .p 0 0), (21, .p 0 0), (27, I (w64 (j620.n.tdiv 8))), (30, U .u8 a2), (33, .p 0 1)] [true, true, true, false, true, true, true, true, true, false, false, true, true, true, true, false, false, false, false, false, false, false, false] [] rfl (by kernel_rfl) rfl [] [cellsA b0 [.slice A621 j620.b.length k621, .int .i64 j620.n] 94, slA 5 (eI .u8) A621 k621 j620.b] (by kernel_rfl) (by kernel_rfl) trivial ?_
        refine rh_2 3 15 (by kernel_rfl) ?_ ?_
        · refine op_quiet none (.v (.slice A621 j620.b.length k621)) _ _ rfl (by kernel_rfl) (by kernel_rfl) (by kernel_rfl) (by kernel_rfl) (fun _ hy => by cases hy) rfl (fin_held [] [true, true, true, true, true, true, true, true, true, false, false, true, true, true, true, false, false, false, false, false, false, false, false] (by kernel_rfl) rfl [] [cellsA b0 [.slice A621 j620.b.length k621, .int .i64 j620.n] 94, slA 5 (eI .u8) A621 k621 j620.b] (by kernel_rfl) ?_)
          refine rh_2 9 15 (by kernel_rfl) ?_ ?_
          · refine op_hint (.v (elP A621 ((w64 (j620.n.tdiv 8)).toNat * 1 + 0))) _ _ (smIa 47 (.slice A621 j620.b.length k621) (.int .i64 (w64 (j620.n.tdiv 8)))) (elP A621 ((w64 (j620.n.tdiv 8)).toNat * 1 + 0)) rfl (by kernel_rfl) (by kernel_rfl) (by kernel_rfl) (by kernel_rfl) (by kernel_rfl) (ob_ia (E := (eI .u8)) (U := 5) (i := (w64 (j620.n.tdiv 8))) (sz := 1) (by kernel_rfl) (by kernel_rfl) (by kernel_rfl) (row_at (U := 5) (E := (eI .u8)) (A := A621) (c := k621) (L := j620.b) 1 (by kernel_rfl)) hy622) rfl (fin_held [] [true, true, true, true, true, true, true, true, true, true, false, true, true, true, true, false, false, false, false, false, false, false, false] (by kernel_rfl) rfl [] [cellsA b0 [.slice A621 j620.b.length k621, .int .i64 j620.n] 94, slA 5 (eI .u8) A621 k621 j620.b] (by kernel_rfl) ?_)
            refine rh_2 10 15 (by kernel_rfl) ?_ ?_
            · refine op_hint (U .u8 y622) _ _ (smLd 5 (elP A621 ((w64 (j620.n.tdiv 8)).toNat * 1 + 0))) (.int .u8 y622) rfl (by kernel_rfl) (by kernel_rfl) (by kernel_rfl) (by kernel_rfl) (by kernel_rfl) (ob_ld1 (E := (eI .u8)) (i := (w64 (j620.n.tdiv 8))) (sz := 1) (o := 0) (d := (.int .u8)) (by kernel_rfl) (by kernel_rfl) (by kernel_rfl) (by kernel_rfl) (row_at (U := 5) (E := (eI .u8)) (A := A621) (c := k621) (L := j620.b) 1 (by kernel_rfl)) hy622) rfl (fin_held [] [true, true, true, true, true, true, true, true, true, true, true, true, true, true, true, false, false, false, false, false, false, false, false] (by kernel_rfl) rfl [] [cellsA b0 [.slice A621 j620.b.length k621, .int .i64 j620.n] 94, slA 5 (eI .u8) A621 k621 j620.b] (by kernel_rfl) ?_)
              refine rh_1 15 (by kernel_rfl) ?_
              refine op_quiet none (I j620.n) _ _ rfl (by kernel_rfl) (by kernel_rfl) (by kernel_rfl) (by kernel_rfl) (fun _ hy => by cases hy) rfl (fin_held [] [true, true, true, true, true, true, true, true, true, true, true, true, true, true, true, true, false, false, false, false, false, false, false] (by kernel_rfl) rfl [] [cellsA b0 [.slice A621 j620.b.length k621, .int .i64 j620.n] 94, slA 5 (eI .u8) A621 k621 j620.b] (by kernel_rfl) ?_)
              refine rh_q [] 2 [16, 17, 18, 19, 20] [(19, U .u8 (shL .u8 a2 (IntKind.wrap .u64 (w64 (7 - (j620.n.tmod 8))))))] [0, 22, 27, 39] [(0, .p 0 0), (22, .v (.slice A621 j620.b.length k621)), (27, I (w64 (j620.n.tdiv 8))), (39, U .u8 (bOr .u8 y622 (shL .u8 a2 (IntKind.wrap .u64 (w64 (7 - (j620.n.tmod 8)))))))] [true, true, true, true, true, true, true, true, true, true, true, true, true, true, true, true, true, true, true, true, true, false, false] [(smShl .u8 a2 .u64 (IntKind.wrap .u64 (w64 (7 - (j620.n.tmod 8)))), .int .u8 (shL .u8 a2 (IntKind.wrap .u64 (w64 (7 - (j620.n.tmod 8))))))] rfl (by kernel_rfl) rfl [] [cellsA b0 [.slice A621 j620.b.length k621, .int .i64 j620.n] 94, slA 5 (eI .u8) A621 k621 j620.b] (by kernel_rfl) (by kernel_rfl) ⟨ob_shl hy623, trivial⟩ ?_
              refine rh_1 21 (by kernel_rfl) ?_
              refine op_hint (.v (elP A621 ((w64 (j620.n.tdiv 8)).toNat * 1 + 0))) _ _ (smIa 47 (.slice A621 j620.b.length k621) (.int .i64 (w64 (j620.n.tdiv 8)))) (elP A621 ((w64 (j620.n.tdiv 8)).toNat * 1 + 0)) rfl (by kernel_rfl) (by kernel_rfl) (by kernel_rfl) (by kernel_rfl) (by kernel_rfl) (ob_ia (E := (eI .u8)) (U := 5) (i := (w64 (j620.n.tdiv 8))) (sz := 1) (by kernel_rfl) (by kernel_rfl) (by kernel_rfl) (row_at (U := 5) (E := (eI .u8)) (A := A621) (c := k621) (L := j620.b) 1 (by kernel_rfl)) hy624) rfl (fin_held [] [true, true, true, true, true, true, true, true, true, true, true, true, true, true, true, true, true, true, true, true, true, true, false] (by kernel_rfl) rfl [] [cellsA b0 [.slice A621 j620.b.length k621, .int .i64 j620.n] 94, slA 5 (eI .u8) A621 k621 j620.b] (by kernel_rfl) ?_)
              refine rh_1 22 (by kernel_rfl) ?_
              refine op_storeEl (E := (eI .u8)) 5 5 (.tmp 40) (.tmp 39) 1 0 A621 k621 j620.b (w64 (j620.n.tdiv 8)) y624 (bOr .u8 y622 (shL .u8 a2 (IntKind.wrap .u64 (w64 (7 - (j620.n.tmod 8)))))) (U .u8 (bOr .u8 y622 (shL .u8 a2 (IntKind.wrap .u64 (w64 (7 - (j620.n.tmod 8))))))) ((Try.prog.info? 5).get rfl) 1 [.c 0 [.v (.slice A621 j620.b.length k621), I j620.n] 94] [.c 0 [.v (.slice A621 y625.length k621), I j620.n] 94] [(0, .p 0 0), (22, .v (.slice A621 y625.length k621)), (27, I (w64 (j620.n.tdiv 8))), (39, U .u8 (bOr .u8 y622 (shL .u8 a2 (IntKind.wrap .u64 (w64 (7 - (j620.n.tmod 8))))))), (40, .v (elP A621 ((w64 (j620.n.tdiv 8)).toNat * 1 + 0)))] (by kernel_rfl) (by kernel_rfl) (by kernel_rfl) (by kernel_rfl) (by kernel_rfl) hy624 hy625 (by kernel_rfl) (by kernel_rfl) (by kernel_rfl) (by kernel_rfl) (by kernel_rfl) (fun e => by first | (simp only [e]; done) | (simp only [e]; kernel_rfl) | kernel_rfl) (fun e => by first | (simp only [e]; done) | (simp only [e]; kernel_rfl) | kernel_rfl) (fin_held [] [true, true, true, true, true, true, true, true, true, true, true, true, true, true, true, true, true, true, true, true, true, true, true] (by kernel_rfl) rfl [] [slA 5 (eI .u8) A621 k621 y625, cellsA b0 [.slice A621 y625.length k621, .int .i64 j620.n] 94] (by kernel_rfl) ?_)
              refine rh_end (by kernel_rfl) (fin_then ?_)
              exact fin_join () trivial [0, 0] [] (by kernel_rfl) (by kernel_rfl) (by kernel_rfl)
            · refine op_quiet none (I j620.n) _ _ rfl (by kernel_rfl) (by kernel_rfl) (by kernel_rfl) (by kernel_rfl) (fun _ hy => by cases hy) rfl (fin_held [] [true, true, true, true, true, true, true, true, true, true, false, true, true, true, true, true, false, false, false, false, false, false, false] (by kernel_rfl) rfl [] [cellsA b0 [.slice A621 j620.b.length k621, .int .i64 j620.n] 94, slA 5 (eI .u8) A621 k621 j620.b] (by kernel_rfl) ?_)
              refine rh_q [] 4 [16, 17, 18, 19] [(19, U .u8 (shL .u8 a2 (IntKind.wrap .u64 (w64 (7 - (j620.n.tmod 8))))))] [0, 22, 27, 28, 38] [(0, .p 0 0), (22, .v (.slice A621 j620.b.length k621)), (27, I (w64 (j620.n.tdiv 8))), (28, .v (elP A621 ((w64 (j620.n.tdiv 8)).toNat * 1 + 0))), (38, U .u8 (shL .u8 a2 (IntKind.wrap .u64 (w64 (7 - (j620.n.tmod 8))))))] [true, true, true, true, true, true, true, true, true, true, false, true, true, true, true, true, true, true, true, true, false, false, false] [(smShl .u8 a2 .u64 (IntKind.wrap .u64 (w64 (7 - (j620.n.tmod 8)))), .int .u8 (shL .u8 a2 (IntKind.wrap .u64 (w64 (7 - (j620.n.tmod 8))))))] rfl (by kernel_rfl) rfl [] [cellsA b0 [.slice A621 j620.b.length k621, .int .i64 j620.n] 94, slA 5 (eI .u8) A621 k621 j620.b] (by kernel_rfl) (by kernel_rfl) ⟨ob_shl hy623, trivial⟩ ?_
              refine rh_1 10 (by kernel_rfl) ?_
              refine op_hint (U .u8 y622) _ _ (smLd 5 (elP A621 ((w64 (j620.n.tdiv 8)).toNat * 1 + 0))) (.int .u8 y622) rfl (by kernel_rfl) (by kernel_rfl) (by kernel_rfl) (by kernel_rfl) (by kernel_rfl) (ob_ld1 (E := (eI .u8)) (i := (w64 (j620.n.tdiv 8))) (sz := 1) (o := 0) (d := (.int .u8)) (by kernel_rfl) (by kernel_rfl) (by kernel_rfl) (by kernel_rfl) (row_at (U := 5) (E := (eI .u8)) (A := A621) (c := k621) (L := j620.b) 1 (by kernel_rfl)) hy622) rfl (fin_held [] [true, true, true, true, true, true, true, true, true, true, true, true, true, true, true, true, true, true, true, true, false, false, false] (by kernel_rfl) rfl [] [cellsA b0 [.slice A621 j620.b.length k621, .int .i64 j620.n] 94, slA 5 (eI .u8) A621 k621 j620.b] (by kernel_rfl) ?_)
              refine rh_q [] 2 [20] [] [0, 22, 27, 39] [(0, .p 0 0), (22, .v (.slice A621 j620.b.length k621)), (27, I (w64 (j620.n.tdiv 8))), (39, U .u8 (bOr .u8 y622 (shL .u8 a2 (IntKind.wrap .u64 (w64 (7 - (j620.n.tmod 8)))))))] [true, true, true, true, true, true, true, true, true, true, true, true, true, true, true, true, true, true, true, true, true, false, false] [] rfl (by kernel_rfl) rfl [] [cellsA b0 [.slice A621 j620.b.length k621, .int .i64 j620.n] 94, slA 5 (eI .u8) A621 k621 j620.b] (by kernel_rfl) (by kernel_rfl) trivial ?_
              refine rh_1 21 (by kernel_rfl) ?_
              refine op_hint (.v (elP A621 ((w64 (j620.n.tdiv 8)).toNat * 1 + 0))) _ _ (smIa 47 (.slice A621 j620.b.length k621) (.int .i64 (w64 (j620.n.tdiv 8)))) (elP A621 ((w64 (j620.n.tdiv 8)).toNat * 1 + 0)) rfl (by kernel_rfl) (by kernel_rfl) (by kernel_rfl) (by kernel_rfl) (by kernel_rfl) (ob_ia (E := (eI .u8)) (U := 5) (i := (w64 (j620.n.tdiv 8))) (sz := 1) (by kernel_rfl) (by kernel_rfl) (by kernel_rfl) (row_at (U := 5) (E := (eI .u8)) (A := A621) (c := k621) (L := j620.b) 1 (by kernel_rfl)) hy624) rfl (fin_held [] [true, true, true, true, true, true, true, true, true, true, true, true, true, true, true, true, true, true, true, true, true, true, false] (by kernel_rfl) rfl [] [cellsA b0 [.slice A621 j620.b.length k621, .int .i64 j620.n] 94, slA 5 (eI .u8) A621 k621 j620.b] (by kernel_rfl) ?_)
              refine rh_1 22 (by kernel_rfl) ?_
              refine op_storeEl (E := (eI .u8)) 5 5 (.tmp 40) (.tmp 39) 1 0 A621 k621 j620.b (w64 (j620.n.tdiv 8)) y624 (bOr .u8 y622 (shL .u8 a2 (IntKind.wrap .u64 (w64 (7 - (j620.n.tmod 8)))))) (U .u8 (bOr .u8 y622 (shL .u8 a2 (IntKind.wrap .u64 (w64 (7 - (j620.n.tmod 8))))))) ((Try.prog.info? 5).get rfl) 1 [.c 0 [.v (.slice A621 j620.b.length k621), I j620.n] 94] [.c 0 [.v (.slice A621 y625.length k621), I j620.n] 94] [(0, .p 0 0), (22, .v (.slice A621 y625.length k621)), (27, I (w64 (j620.n.tdiv 8))), (39, U .u8 (bOr .u8 y622 (shL .u8 a2 (IntKind.wrap .u64 (w64 (7 - (j620.n.tmod 8))))))), (40, .v (elP A621 ((w64 (j620.n.tdiv 8)).toNat * 1 + 0)))] (by kernel_rfl) (by kernel_rfl) (by kernel_rfl) (by kernel_rfl) (by kernel_rfl) hy624 hy625 (by kernel_rfl) (by kernel_rfl) (by kernel_rfl) (by kernel_rfl) (by kernel_rfl) (fun e => by first | (simp only [e]; done) | (simp only [e]; kernel_rfl) | kernel_rfl) (fun e => by first | (simp only [e]; done) | (simp only [e]; kernel_rfl) | kernel_rfl) (fin_held [] [true, true, true, true, true, true, true, true, true, true, true, true, true, true, true, true, true, true, true, true, true, true, true] (by kernel_rfl) rfl [] [slA 5 (eI .u8) A621 k621 y625, cellsA b0 [.slice A621 y625.length k621, .int .i64 j620.n] 94] (by kernel_rfl) ?_)
              refine rh_end (by kernel_rfl) (fin_then ?_)
              exact fin_join () trivial [0, 0] [] (by kernel_rfl) (by kernel_rfl) (by kernel_rfl)
          · refine op_quiet none (I j620.n) _ _ rfl (by kernel_rfl) (by kernel_rfl) (by kernel_rfl) (by kernel_rfl) (fun _ hy => by cases hy) rfl (fin_held [] [true, true, true, true, true, true, true, true, true, false, false, true, true, true, true, true, false, false, false, false, false, false, false] (by kernel_rfl) rfl [] [cellsA b0 [.slice A621 j620.b.length k621, .int .i64 j620.n] 94, slA 5 (eI .u8) A621 k621 j620.b] (by kernel_rfl) ?_)
            refine rh_q [] 5 [16, 17, 18, 19] [(19, U .u8 (shL .u8 a2 (IntKind.wrap .u64 (w64 (7 - (j620.n.tmod 8))))))] [0, 22, 27, 38] [(0, .p 0 0), (22, .v (.slice A621 j620.b.length k621)), (27, I (w64 (j620.n.tdiv 8))), (38, U .u8 (shL .u8 a2 (IntKind.wrap .u64 (w64 (7 - (j620.n.tmod 8))))))] [true, true, true, true, true, true, true, true, true, false, false, true, true, true, true, true, true, true, true, true, false, false, false] [(smShl .u8 a2 .u64 (IntKind.wrap .u64 (w64 (7 - (j620.n.tmod 8)))), .int .u8 (shL .u8 a2 (IntKind.wrap .u64 (w64 (7 - (j620.n.tmod 8))))))] rfl (by kernel_rfl) rfl [] [cellsA b0 [.slice A621 j620.b.length k621, .int .i64 j620.n] 94, slA 5 (eI .u8) A621 k621 j620.b] (by kernel_rfl) (by kernel_rfl) ⟨ob_shl hy623, trivial⟩ ?_
            refine rh_1 9 (by kernel_rfl) ?_
            refine op_hint (.v (elP A621 ((w64 (j620.n.tdiv 8)).toNat * 1 + 0))) _ _ (smIa 47 (.slice A621 j620.b.length k621) (.int .i64 (w64 (j620.n.tdiv 8)))) (elP A621 ((w64 (j620.n.tdiv 8)).toNat * 1 + 0)) rfl (by kernel_rfl) (by kernel_rfl) (by kernel_rfl) (by kernel_rfl) (by kernel_rfl) (ob_ia (E := (eI .u8)) (U := 5) (i := (w64 (j620.n.tdiv 8))) (sz := 1) (by kernel_rfl) (by kernel_rfl) (by kernel_rfl) (row_at (U := 5) (E := (eI .u8)) (A := A621) (c := k621) (L := j620.b) 1 (by kernel_rfl)) hy622) rfl (fin_held [] [true, true, true, true, true, true, true, true, true, true, false, true, true, true, true, true, true, true, true, true, false, false, false] (by kernel_rfl) rfl [] [cellsA b0 [.slice A621 j620.b.length k621, .int .i64 j620.n] 94, slA 5 (eI .u8) A621 k621 j620.b] (by kernel_rfl) ?_)
            refine rh_1 10 (by kernel_rfl) ?_
            refine op_hint (U .u8 y622) _ _ (smLd 5 (elP A621 ((w64 (j620.n.tdiv 8)).toNat * 1 + 0))) (.int .u8 y622) rfl (by kernel_rfl) (by kernel_rfl) (by kernel_rfl) (by kernel_rfl) (by kernel_rfl) (ob_ld1 (E := (eI .u8)) (i := (w64 (j620.n.tdiv 8))) (sz := 1) (o := 0) (d := (.int .u8)) (by kernel_rfl) (by kernel_rfl) (by kernel_rfl) (by kernel_rfl) (row_at (U := 5) (E := (eI .u8)) (A := A621) (c := k621) (L := j620.b) 1 (by kernel_rfl)) hy622) rfl (fin_held [] [true, true, true, true, true, true, true, true, true, true, true, true, true, true, true, true, true, true, true, true, false, false, false] (by kernel_rfl) rfl [] [cellsA b0 [.slice A621 j620.b.length k621, .int .i64 j620.n] 94, slA 5 (eI .u8) A621 k621 j620.b] (by kernel_rfl) ?_)
            refine rh_q [] 2 [20] [] [0, 22, 27, 39] [(0, .p 0 0), (22, .v (.slice A621 j620.b.length k621)), (27, I (w64 (j620.n.tdiv 8))), (39, U .u8 (bOr .u8 y622 (shL .u8 a2 (IntKind.wrap .u64 (w64 (7 - (j620.n.tmod 8)))))))] [true, true, true, true, true, true, true, true, true, true, true, true, true, true, true, true, true, true, true, true, true, false, false] [] rfl (by kernel_rfl) rfl [] [cellsA b0 [.slice A621 j620.b.length k621, .int .i64 j620.n] 94, slA 5 (eI .u8) A621 k621 j620.b] (by kernel_rfl) (by kernel_rfl) trivial ?_
            refine rh_1 21 (by kernel_rfl) ?_
            refine op_hint (.v (elP A621 ((w64 (j620.n.tdiv 8)).toNat * 1 + 0))) _ _ (smIa 47 (.slice A621 j620.b.length k621) (.int .i64 (w64 (j620.n.tdiv 8)))) (elP A621 ((w64 (j620.n.tdiv 8)).toNat * 1 + 0)) rfl (by kernel_rfl) (by kernel_rfl) (by kernel_rfl) (by kernel_rfl) (by kernel_rfl) (ob_ia (E := (eI .u8)) (U := 5) (i := (w64 (j620.n.tdiv 8))) (sz := 1) (by kernel_rfl) (by kernel_rfl) (by kernel_rfl) (row_at (U := 5) (E := (eI .u8)) (A := A621) (c := k621) (L := j620.b) 1 (by kernel_rfl)) hy624) rfl (fin_held [] [true, true, true, true, true, true, true, true, true, true, true, true, true, true, true, true, true, true, true, true, true, true, false] (by kernel_rfl) rfl [] [cellsA b0 [.slice A621 j620.b.length k621, .int .i64 j620.n] 94, slA 5 (eI .u8) A621 k621 j620.b] (by kernel_rfl) ?_)
            refine rh_1 22 (by kernel_rfl) ?_
            refine op_storeEl (E := (eI .u8)) 5 5 (.tmp 40) (.tmp 39) 1 0 A621 k621 j620.b (w64 (j620.n.tdiv 8)) y624 (bOr .u8 y622 (shL .u8 a2 (IntKind.wrap .u64 (w64 (7 - (j620.n.tmod 8)))))) (U .u8 (bOr .u8 y622 (shL .u8 a2 (IntKind.wrap .u64 (w64 (7 - (j620.n.tmod 8))))))) ((Try.prog.info? 5).get rfl) 1 [.c 0 [.v (.slice A621 j620.b.length k621), I j620.n] 94] [.c 0 [.v (.slice A621 y625.length k621), I j620.n] 94] [(0, .p 0 0), (22, .v (.slice A621 y625.length k621)), (27, I (w64 (j620.n.tdiv 8))), (39, U .u8 (bOr .u8 y622 (shL .u8 a2 (IntKind.wrap .u64 (w64 (7 - (j620.n.tmod 8))))))), (40, .v (elP A621 ((w64 (j620.n.tdiv 8)).toNat * 1 + 0)))] (by kernel_rfl) (by kernel_rfl) (by kernel_rfl) (by kernel_rfl) (by kernel_rfl) hy624 hy625 (by kernel_rfl) (by kernel_rfl) (by kernel_rfl) (by kernel_rfl) (by kernel_rfl) (fun e => by first | (simp only [e]; done) | (simp only [e]; kernel_rfl) | kernel_rfl) (fun e => by first | (simp only [e]; done) | (simp only [e]; kernel_rfl) | kernel_rfl) (fin_held [] [true, true, true, true, true, true, true, true, true, true, true, true, true, true, true, true, true, true, true, true, true, true, true] (by kernel_rfl) rfl [] [slA 5 (eI .u8) A621 k621 y625, cellsA b0 [.slice A621 y625.length k621, .int .i64 j620.n] 94] (by kernel_rfl) ?_)
            refine rh_end (by kernel_rfl) (fin_then ?_)
            exact fin_join () trivial [0, 0] [] (by kernel_rfl) (by kernel_rfl) (by kernel_rfl)
        · refine op_quiet none (I j620.n) _ _ rfl (by kernel_rfl) (by kernel_rfl) (by kernel_rfl) (by kernel_rfl) (fun _ hy => by cases hy) rfl (fin_held [] [true, true, true, false, true, true, true, true, true, false, false, true, true, true, true, true, false, false, false, false, false, false, false] (by kernel_rfl) rfl [] [cellsA b0 [.slice A621 j620.b.length k621, .int .i64 j620.n] 94, slA 5 (eI .u8) A621 k621 j620.b] (by kernel_rfl) ?_)
          refine rh_q [] 6 [16, 17, 18, 19] [(19, U .u8 (shL .u8 a2 (IntKind.wrap .u64 (w64 (7 - (j620.n.tmod 8))))))] [0, 21, 27, 38] [(0, .p 0 0), (21, .p 0 0), (27, I (w64 (j620.n.tdiv 8))), (38, U .u8 (shL .u8 a2 (IntKind.wrap .u64 (w64 (7 - (j620.n.tmod 8))))))] [true, true, true, false, true, true, true, true, true, false, false, true, true, true, true, true, true, true, true, true, false, false, false] [(smShl .u8 a2 .u64 (IntKind.wrap .u64 (w64 (7 - (j620.n.tmod 8)))), .int .u8 (shL .u8 a2 (IntKind.wrap .u64 (w64 (7 - (j620.n.tmod 8))))))] rfl (by kernel_rfl) rfl [] [cellsA b0 [.slice A621 j620.b.length k621, .int .i64 j620.n] 94, slA 5 (eI .u8) A621 k621 j620.b] (by kernel_rfl) (by kernel_rfl) ⟨ob_shl hy623, trivial⟩ ?_
          refine rh_1 3 (by kernel_rfl) ?_
          refine op_quiet none (.v (.slice A621 j620.b.length k621)) _ _ rfl (by kernel_rfl) (by kernel_rfl) (by kernel_rfl) (by kernel_rfl) (fun _ hy => by cases hy) rfl (fin_held [] [true, true, true, true, true, true, true, true, true, false, false, true, true, true, true, true, true, true, true, true, false, false, false] (by kernel_rfl) rfl [] [cellsA b0 [.slice A621 j620.b.length k621, .int .i64 j620.n] 94, slA 5 (eI .u8) A621 k621 j620.b] (by kernel_rfl) ?_)
          refine rh_1 9 (by kernel_rfl) ?_
          refine op_hint (.v (elP A621 ((w64 (j620.n.tdiv 8)).toNat * 1 + 0))) _ _ (smIa 47 (.slice A621 j620.b.length k621) (.int .i64 (w64 (j620.n.tdiv 8)))) (elP A621 ((w64 (j620.n.tdiv 8)).toNat * 1 + 0)) rfl (by kernel_rfl) (by kernel_rfl) (by kernel_rfl) (by kernel_rfl) (by kernel_rfl) (ob_ia (E := (eI .u8)) (U := 5) (i := (w64 (j620.n.tdiv 8))) (sz := 1) (by kernel_rfl) (by kernel_rfl) (by kernel_rfl) (row_at (U := 5) (E := (eI .u8)) (A := A621) (c := k621) (L := j620.b) 1 (by kernel_rfl)) hy622) rfl (fin_held [] [true, true, true, true, true, true, true, true, true, true, false, true, true, true, true, true, true, true, true, true, false, false, false] (by kernel_rfl) rfl [] [cellsA b0 [.slice A621 j620.b.length k621, .int .i64 j620.n] 94, slA 5 (eI .u8) A621 k621 j620.b] (by kernel_rfl) ?_)
          refine rh_1 10 (by kernel_rfl) ?_
          refine op_hint (U .u8 y622) _ _ (smLd 5 (elP A621 ((w64 (j620.n.tdiv 8)).toNat * 1 + 0))) (.int .u8 y622) rfl (by kernel_rfl) (by kernel_rfl) (by kernel_rfl) (by kernel_rfl) (by kernel_rfl) (ob_ld1 (E := (eI .u8)) (i := (w64 (j620.n.tdiv 8))) (sz := 1) (o := 0) (d := (.int .u8)) (by kernel_rfl) (by kernel_rfl) (by kernel_rfl) (by kernel_rfl) (row_at (U := 5) (E := (eI .u8)) (A := A621) (c := k621) (L := j620.b) 1 (by kernel_rfl)) hy622) rfl (fin_held [] [true, true, true, true, true, true, true, true, true, true, true, true, true, true, true, true, true, true, true, true, false, false, false] (by kernel_rfl) rfl [] [cellsA b0 [.slice A621 j620.b.length k621, .int .i64 j620.n] 94, slA 5 (eI .u8) A621 k621 j620.b] (by kernel_rfl) ?_)
          refine rh_q [] 2 [20] [] [0, 22, 27, 39] [(0, .p 0 0), (22, .v (.slice A621 j620.b.length k621)), (27, I (w64 (j620.n.tdiv 8))), (39, U .u8 (bOr .u8 y622 (shL .u8 a2 (IntKind.wrap .u64 (w64 (7 - (j620.n.tmod 8)))))))] [true, true, true, true, true, true, true, true, true, true, true, true, true, true, true, true, true, true, true, true, true, false, false] [] rfl (by kernel_rfl) rfl [] [cellsA b0 [.slice A621 j620.b.length k621, .int .i64 j620.n] 94, slA 5 (eI .u8) A621 k621 j620.b] (by kernel_rfl) (by kernel_rfl) trivial ?_
          refine rh_1 21 (by kernel_rfl) ?_
          refine op_hint (.v (elP A621 ((w64 (j620.n.tdiv 8)).toNat * 1 + 0))) _ _ (smIa 47 (.slice A621 j620.b.length k621) (.int .i64 (w64 (j620.n.tdiv 8)))) (elP A621 ((w64 (j620.n.tdiv 8)).toNat * 1 + 0)) rfl (by kernel_rfl) (by kernel_rfl) (by kernel_rfl) (by kernel_rfl) (by kernel_rfl) (ob_ia (E := (eI .u8)) (U := 5) (i := (w64 (j620.n.tdiv 8))) (sz := 1) (by kernel_rfl) (by kernel_rfl) (by kernel_rfl) (row_at (U := 5) (E := (eI .u8)) (A := A621) (c := k621) (L := j620.b) 1 (by kernel_rfl)) hy624) rfl (fin_held [] [true, true, true, true, true, true, true, true, true, true, true, true, true, true, true, true, true, true, true, true, true, true, false] (by kernel_rfl) rfl [] [cellsA b0 [.slice A621 j620.b.length k621, .int .i64 j620.n] 94, slA 5 (eI .u8) A621 k621 j620.b] (by kernel_rfl) ?_)
          refine rh_1 22 (by kernel_rfl) ?_
          refine op_storeEl (E := (eI .u8)) 5 5 (.tmp 40) (.tmp 39) 1 0 A621 k621 j620.b (w64 (j620.n.tdiv 8)) y624 (bOr .u8 y622 (shL .u8 a2 (IntKind.wrap .u64 (w64 (7 - (j620.n.tmod 8)))))) (U .u8 (bOr .u8 y622 (shL .u8 a2 (IntKind.wrap .u64 (w64 (7 - (j620.n.tmod 8))))))) ((Try.prog.info? 5).get rfl) 1 [.c 0 [.v (.slice A621 j620.b.length k621), I j620.n] 94] [.c 0 [.v (.slice A621 y625.length k621), I j620.n] 94] [(0, .p 0 0), (22, .v (.slice A621 y625.length k621)), (27, I (w64 (j620.n.tdiv 8))), (39, U .u8 (bOr .u8 y622 (shL .u8 a2 (IntKind.wrap .u64 (w64 (7 - (j620.n.tmod 8))))))), (40, .v (elP A621 ((w64 (j620.n.tdiv 8)).toNat * 1 + 0)))] (by kernel_rfl) (by kernel_rfl) (by kernel_rfl) (by kernel_rfl) (by kernel_rfl) hy624 hy625 (by kernel_rfl) (by kernel_rfl) (by kernel_rfl) (by kernel_rfl) (by kernel_rfl) (fun e => by first | (simp only [e]; done) | (simp only [e]; kernel_rfl) | kernel_rfl) (fun e => by first | (simp only [e]; done) | (simp only [e]; kernel_rfl) | kernel_rfl) (fin_held [] [true, true, true, true, true, true, true, true, true, true, true, true, true, true, true, true, true, true, true, true, true, true, true] (by kernel_rfl) rfl [] [slA 5 (eI .u8) A621 k621 y625, cellsA b0 [.slice A621 y625.length k621, .int .i64 j620.n] 94] (by kernel_rfl) ?_)
          refine rh_end (by kernel_rfl) (fin_then ?_)
          exact fin_join () trivial [0, 0] [] (by kernel_rfl) (by kernel_rfl) (by kernel_rfl)
      · refine op_quiet none (I j620.n) _ _ rfl (by kernel_rfl) (by kernel_rfl) (by kernel_rfl) (by kernel_rfl) (fun _ hy => by cases hy) rfl (fin_held [] [true, true, true, false, true, true, true, false, false, false, false, true, true, true, true, true, false, false, false, false, false, false, false] (by kernel_rfl) rfl [] [cellsA b0 [.slice A621 j620.b.length k621, .int .i64 j620.n] 94, slA 5 (eI .u8) A621 k621 j620.b] (by kernel_rfl) ?_)
        refine rh_q [] 8 [16, 17, 18, 19] [(19, U .u8 (shL .u8 a2 (IntKind.wrap .u64 (w64 (7 - (j620.n.tmod 8))))))] [0, 21, 25, 38] [(0, .p 0 0), (21, .p 0 0), (25, .p 0 1), (38, U .u8 (shL .u8 a2 (IntKind.wrap .u64 (w64 (7 - (j620.n.tmod 8))))))] [true, true, true, false, true, true, true, false, false, false, false, true, true, true, true, true, true, true, true, true, false, false, false] [(smShl .u8 a2 .u64 (IntKind.wrap .u64 (w64 (7 - (j620.n.tmod 8)))), .int .u8 (shL .u8 a2 (IntKind.wrap .u64 (w64 (7 - (j620.n.tmod 8))))))] rfl (by kernel_rfl) rfl [] [cellsA b0 [.slice A621 j620.b.length k621, .int .i64 j620.n] 94, slA 5 (eI .u8) A621 k621 j620.b] (by kernel_rfl) (by kernel_rfl) ⟨ob_shl hy623, trivial⟩ ?_
        refine rh_2 3 7 (by kernel_rfl) ?_ ?_
        · refine op_quiet none (.v (.slice A621 j620.b.length k621)) _ _ rfl (by kernel_rfl) (by kernel_rfl) (by kernel_rfl) (by kernel_rfl) (fun _ hy => by cases hy) rfl (fin_held [] [true, true, true, true, true, true, true, false, false, false, false, true, true, true, true, true, true, true, true, true, false, false, false] (by kernel_rfl) rfl [] [cellsA b0 [.slice A621 j620.b.length k621, .int .i64 j620.n] 94, slA 5 (eI .u8) A621 k621 j620.b] (by kernel_rfl) ?_)
          refine rh_1 7 (by kernel_rfl) ?_
          refine op_quiet none (I j620.n) _ _ rfl (by kernel_rfl) (by kernel_rfl) (by kernel_rfl) (by kernel_rfl) (fun _ hy => by cases hy) rfl (fin_held [] [true, true, true, true, true, true, true, true, false, false, false, true, true, true, true, true, true, true, true, true, false, false, false] (by kernel_rfl) rfl [] [cellsA b0 [.slice A621 j620.b.length k621, .int .i64 j620.n] 94, slA 5 (eI .u8) A621 k621 j620.b] (by kernel_rfl) ?_)
          refine rh_q [] 5 [8] [] [0, 22, 27, 38] [(0, .p 0 0), (22, .v (.slice A621 j620.b.length k621)), (27, I (w64 (j620.n.tdiv 8))), (38, U .u8 (shL .u8 a2 (IntKind.wrap .u64 (w64 (7 - (j620.n.tmod 8))))))] [true, true, true, true, true, true, true, true, true, false, false, true, true, true, true, true, true, true, true, true, false, false, false] [] rfl (by kernel_rfl) rfl [] [cellsA b0 [.slice A621 j620.b.length k621, .int .i64 j620.n] 94, slA 5 (eI .u8) A621 k621 j620.b] (by kernel_rfl) (by kernel_rfl) trivial ?_
          refine rh_1 9 (by kernel_rfl) ?_
          refine op_hint (.v (elP A621 ((w64 (j620.n.tdiv 8)).toNat * 1 + 0))) _ _ (smIa 47 (.slice A621 j620.b.length k621) (.int .i64 (w64 (j620.n.tdiv 8)))) (elP A621 ((w64 (j620.n.tdiv 8)).toNat * 1 + 0)) rfl (by kernel_rfl) (by kernel_rfl) (by kernel_rfl) (by kernel_rfl) (by kernel_rfl) (ob_ia (E := (eI .u8)) (U := 5) (i := (w64 (j620.n.tdiv 8))) (sz := 1) (by kernel_rfl) (by kernel_rfl) (by kernel_rfl) (row_at (U := 5) (E := (eI .u8)) (A := A621) (c := k621) (L := j620.b) 1 (by kernel_rfl)) hy622) rfl (fin_held [] [true, true, true, true, true, true, true, true, true, true, false, true, true, true, true, true, true, true, true, true, false, false, false] (by kernel_rfl) rfl [] [cellsA b0 [.slice A621 j620.b.length k621, .int .i64 j620.n] 94, slA 5 (eI .u8) A621 k621 j620.b] (by kernel_rfl) ?_)
          refine rh_1 10 (by kernel_rfl) ?_
          refine op_hint (U .u8 y622) _ _ (smLd 5 (elP A621 ((w64 (j620.n.tdiv 8)).toNat * 1 + 0))) (.int .u8 y622) rfl (by kernel_rfl) (by kernel_rfl) (by kernel_rfl) (by kernel_rfl) (by kernel_rfl) (ob_ld1 (E := (eI .u8)) (i := (w64 (j620.n.tdiv 8))) (sz := 1) (o := 0) (d := (.int .u8)) (by kernel_rfl) (by kernel_rfl) (by kernel_rfl) (by kernel_rfl) (row_at (U := 5) (E := (eI .u8)) (A := A621) (c := k621) (L := j620.b) 1 (by kernel_rfl)) hy622) rfl (fin_held [] [true, true, true, true, true, true, true, true, true, true, true, true, true, true, true, true, true, true, true, true, false, false, false] (by kernel_rfl) rfl [] [cellsA b0 [.slice A621 j620.b.length k621, .int .i64 j620.n] 94, slA 5 (eI .u8) A621 k621 j620.b] (by kernel_rfl) ?_)
          refine rh_q [] 2 [20] [] [0, 22, 27, 39] [(0, .p 0 0), (22, .v (.slice A621 j620.b.length k621)), (27, I (w64 (j620.n.tdiv 8))), (39, U .u8 (bOr .u8 y622 (shL .u8 a2 (IntKind.wrap .u64 (w64 (7 - (j620.n.tmod 8)))))))] [true, true, true, true, true, true, true, true, true, true, true, true, true, true, true, true, true, true, true, true, true, false, false] [] rfl (by kernel_rfl) rfl [] [cellsA b0 [.slice A621 j620.b.length k621, .int .i64 j620.n] 94, slA 5 (eI .u8) A621 k621 j620.b] (by kernel_rfl) (by kernel_rfl) trivial ?_
          refine rh_1 21 (by kernel_rfl) ?_
          refine op_hint (.v (elP A621 ((w64 (j620.n.tdiv 8)).toNat * 1 + 0))) _ _ (smIa 47 (.slice A621 j620.b.length k621) (.int .i64 (w64 (j620.n.tdiv 8)))) (elP A621 ((w64 (j620.n.tdiv 8)).toNat * 1 + 0)) rfl (by kernel_rfl) (by kernel_rfl) (by kernel_rfl) (by kernel_rfl) (by kernel_rfl) (ob_ia (E := (eI .u8)) (U := 5) (i := (w64 (j620.n.tdiv 8))) (sz := 1) (by kernel_rfl) (by kernel_rfl) (by kernel_rfl) (row_at (U := 5) (E := (eI .u8)) (A := A621) (c := k621) (L := j620.b) 1 (by kernel_rfl)) hy624) rfl (fin_held [] [true, true, true, true, true, true, true, true, true, true, true, true, true, true, true, true, true, true, true, true, true, true, false] (by kernel_rfl) rfl [] [cellsA b0 [.slice A621 j620.b.length k621, .int .i64 j620.n] 94, slA 5 (eI .u8) A621 k621 j620.b] (by kernel_rfl) ?_)
          refine rh_1 22 (by kernel_rfl) ?_
          refine op_storeEl (E := (eI .u8)) 5 5 (.tmp 40) (.tmp 39) 1 0 A621 k621 j620.b (w64 (j620.n.tdiv 8)) y624 (bOr .u8 y622 (shL .u8 a2 (IntKind.wrap .u64 (w64 (7 - (j620.n.tmod 8)))))) (U .u8 (bOr .u8 y622 (shL .u8 a2 (IntKind.wrap .u64 (w64 (7 - (j620.n.tmod 8))))))) ((Try.prog.info? 5).get rfl) 1 [.c 0 [.v (.slice A621 j620.b.length k621), I j620.n] 94] [.c 0 [.v (.slice A621 y625.length k621), I j620.n] 94] [(0, .p 0 0), (22, .v (.slice A621 y625.length k621)), (27, I (w64 (j620.n.tdiv 8))), (39, U .u8 (bOr .u8 y622 (shL .u8 a2 (IntKind.wrap .u64 (w64 (7 - (j620.n.tmod 8))))))), (40, .v (elP A621 ((w64 (j620.n.tdiv 8)).toNat * 1 + 0)))] (by kernel_rfl) (by kernel_rfl) (by kernel_rfl) (by kernel_rfl) (by kernel_rfl) hy624 hy625 (by kernel_rfl) (by kernel_rfl) (by kernel_rfl) (by kernel_rfl) (by kernel_rfl) (fun e => by first | (simp only [e]; done) | (simp only [e]; kernel_rfl) | kernel_rfl) (fun e => by first | (simp only [e]; done) | (simp only [e]; kernel_rfl) | kernel_rfl) (fin_held [] [true, true, true, true, true, true, true, true, true, true, true, true, true, true, true, true, true, true, true, true, true, true, true] (by kernel_rfl) rfl [] [slA 5 (eI .u8) A621 k621 y625, cellsA b0 [.slice A621 y625.length k621, .int .i64 j620.n] 94] (by kernel_rfl) ?_)
          refine rh_end (by kernel_rfl) (fin_then ?_)
          exact fin_join () trivial [0, 0] [] (by kernel_rfl) (by kernel_rfl) (by kernel_rfl)
        · refine op_quiet none (I j620.n) _ _ rfl (by kernel_rfl) (by kernel_rfl) (by kernel_rfl) (by kernel_rfl) (fun _ hy => by cases hy) rfl (fin_held [] [true, true, true, false, true, true, true, true, false, false, false, true, true, true, true, true, true, true, true, true, false, false, false] (by kernel_rfl) rfl [] [cellsA b0 [.slice A621 j620.b.length k621, .int .i64 j620.n] 94, slA 5 (eI .u8) A621 k621 j620.b] (by kernel_rfl) ?_)
          refine rh_q [] 6 [8] [] [0, 21, 27, 38] [(0, .p 0 0), (21, .p 0 0), (27, I (w64 (j620.n.tdiv 8))), (38, U .u8 (shL .u8 a2 (IntKind.wrap .u64 (w64 (7 - (j620.n.tmod 8))))))] [true, true, true, false, true, true, true, true, true, false, false, true, true, true, true, true, true, true, true, true, false, false, false] [] rfl (by kernel_rfl) rfl [] [cellsA b0 [.slice A621 j620.b.length k621, .int .i64 j620.n] 94, slA 5 (eI .u8) A621 k621 j620.b] (by kernel_rfl) (by kernel_rfl) trivial ?_
          refine rh_1 3 (by kernel_rfl) ?_
          refine op_quiet none (.v (.slice A621 j620.b.length k621)) _ _ rfl (by kernel_rfl) (by kernel_rfl) (by kernel_rfl) (by kernel_rfl) (fun _ hy => by cases hy) rfl (fin_held [] [true, true, true, true, true, true, true, true, true, false, false, true, true, true, true, true, true, true, true, true, false, false, false] (by kernel_rfl) rfl [] [cellsA b0 [.slice A621 j620.b.length k621, .int .i64 j620.n] 94, slA 5 (eI .u8) A621 k621 j620.b] (by kernel_rfl) ?_)
          refine rh_1 9 (by kernel_rfl) ?_
          refine op_hint (.v (elP A621 ((w64 (j620.n.tdiv 8)).toNat * 1 + 0))) _ _ (smIa 47 (.slice A621 j620.b.length k621) (.int .i64 (w64 (j620.n.tdiv 8)))) (elP A621 ((w64 (j620.n.tdiv 8)).toNat * 1 + 0)) rfl (by kernel_rfl) (by kernel_rfl) (by kernel_rfl) (by kernel_rfl) (by kernel_rfl) (ob_ia (E := (eI .u8)) (U := 5) (i := (w64 (j620.n.tdiv 8))) (sz := 1) (by kernel_rfl) (by kernel_rfl) (by kernel_rfl) (row_at (U := 5) (E := (eI .u8)) (A := A621) (c := k621) (L := j620.b) 1 (by kernel_rfl)) hy622) rfl (fin_held [] [true, true, true, true, true, true, true, true, true, true, false, true, true, true, true, true, true, true, true, true, false, false, false] (by kernel_rfl) rfl [] [cellsA b0 [.slice A621 j620.b.length k621, .int .i64 j620.n] 94, slA 5 (eI .u8) A621 k621 j620.b] (by kernel_rfl) ?_)
          refine rh_1 10 (by kernel_rfl) ?_
          refine op_hint (U .u8 y622) _ _ (smLd 5 (elP A621 ((w64 (j620.n.tdiv 8)).toNat * 1 + 0))) (.int .u8 y622) rfl (by kernel_rfl) (by kernel_rfl) (by kernel_rfl) (by kernel_rfl) (by kernel_rfl) (ob_ld1 (E := (eI .u8)) (i := (w64 (j620.n.tdiv 8))) (sz := 1) (o := 0) (d := (.int .u8)) (by kernel_rfl) (by kernel_rfl) (by kernel_rfl) (by kernel_rfl) (row_at (U := 5) (E := (eI .u8)) (A := A621) (c := k621) (L := j620.b) 1 (by kernel_rfl)) hy622) rfl (fin_held [] [true, true, true, true, true, true, true, true, true, true, true, true, true, true, true, true, true, true, true, true, false, false, false] (by kernel_rfl) rfl [] [cellsA b0 [.slice A621 j620.b.length k621, .int .i64 j620.n] 94, slA 5 (eI .u8) A621 k621 j620.b] (by kernel_rfl) ?_)
          refine rh_q [] 2 [20] [] [0, 22, 27, 39] [(0, .p 0 0), (22, .v (.slice A621 j620.b.length k621)), (27, I (w64 (j620.n.tdiv 8))), (39, U .u8 (bOr .u8 y622 (shL .u8 a2 (IntKind.wrap .u64 (w64 (7 - (j620.n.tmod 8)))))))] [true, true, true, true, true, true, true, true, true, true, true, true, true, true, true, true, true, true, true, true, true, false, false] [] rfl (by kernel_rfl) rfl [] [cellsA b0 [.slice A621 j620.b.length k621, .int .i64 j620.n] 94, slA 5 (eI .u8) A621 k621 j620.b] (by kernel_rfl) (by kernel_rfl) trivial ?_
          refine rh_1 21 (by kernel_rfl) ?_
          refine op_hint (.v (elP A621 ((w64 (j620.n.tdiv 8)).toNat * 1 + 0))) _ _ (smIa 47 (.slice A621 j620.b.length k621) (.int .i64 (w64 (j620.n.tdiv 8)))) (elP A621 ((w64 (j620.n.tdiv 8)).toNat * 1 + 0)) rfl (by kernel_rfl) (by kernel_rfl) (by kernel_rfl) (by kernel_rfl) (by kernel_rfl) (ob_ia (E := (eI .u8)) (U := 5) (i := (w64 (j620.n.tdiv 8))) (sz := 1) (by kernel_rfl) (by kernel_rfl) (by kernel_rfl) (row_at (U := 5) (E := (eI .u8)) (A := A621) (c := k621) (L := j620.b) 1 (by kernel_rfl)) hy624) rfl (fin_held [] [true, true, true, true, true, true, true, true, true, true, true, true, true, true, true, true, true, true, true, true, true, true, false] (by kernel_rfl) rfl [] [cellsA b0 [.slice A621 j620.b.length k621, .int .i64 j620.n] 94, slA 5 (eI .u8) A621 k621 j620.b] (by kernel_rfl) ?_)
          refine rh_1 22 (by kernel_rfl) ?_
          refine op_storeEl (E := (eI .u8)) 5 5 (.tmp 40) (.tmp 39) 1 0 A621 k621 j620.b (w64 (j620.n.tdiv 8)) y624 (bOr .u8 y622 (shL .u8 a2 (IntKind.wrap .u64 (w64 (7 - (j620.n.tmod 8)))))) (U .u8 (bOr .u8 y622 (shL .u8 a2 (IntKind.wrap .u64 (w64 (7 - (j620.n.tmod 8))))))) ((Try.prog.info? 5).get rfl) 1 [.c 0 [.v (.slice A621 j620.b.length k621), I j620.n] 94] [.c 0 [.v (.slice A621 y625.length k621), I j620.n] 94] [(0, .p 0 0), (22, .v (.slice A621 y625.length k621)), (27, I (w64 (j620.n.tdiv 8))), (39, U .u8 (bOr .u8 y622 (shL .u8 a2 (IntKind.wrap .u64 (w64 (7 - (j620.n.tmod 8))))))), (40, .v (elP A621 ((w64 (j620.n.tdiv 8)).toNat * 1 + 0)))] (by kernel_rfl) (by kernel_rfl) (by kernel_rfl) (by kernel_rfl) (by kernel_rfl) hy624 hy625 (by kernel_rfl) (by kernel_rfl) (by kernel_rfl) (by kernel_rfl) (by kernel_rfl) (fun e => by first | (simp only [e]; done) | (simp only [e]; kernel_rfl) | kernel_rfl) (fun e => by first | (simp only [e]; done) | (simp only [e]; kernel_rfl) | kernel_rfl) (fin_held [] [true, true, true, true, true, true, true, true, true, true, true, true, true, true, true, true, true, true, true, true, true, true, true] (by kernel_rfl) rfl [] [slA 5 (eI .u8) A621 k621 y625, cellsA b0 [.slice A621 y625.length k621, .int .i64 j620.n] 94] (by kernel_rfl) ?_)
          refine rh_end (by kernel_rfl) (fin_then ?_)
          exact fin_join () trivial [0, 0] [] (by kernel_rfl) (by kernel_rfl) (by kernel_rfl)
    · rintro ⟨⟩ -
      refine fin_id (fin_next ?_)
      refine rn_text ?_
      refine ro_q 7 [] [45, 47] [(45, I (w64 (j620.n + 1))), (47, .p 0 1)] [] (by kernel_rfl) trivial ?_
      refine ro_op (by kernel_rfl) (op_store 3 (.tmp 47) (.tmp 45) 0 1 (I (w64 (j620.n + 1))) [.a (slA 5 (eI .u8) A621 k621 y625), .c 0 [.v (.slice A621 y625.length k621), I (w64 (j620.n + 1))] 94] (by kernel_rfl) (by kernel_rfl) (by kernel_rfl) (by kernel_rfl) (ro_fin ?_))
      refine ro_end (by kernel_rfl) ?_
      refine fin_fold [.a (R_ref06_Writer b0 (⟨y625, w64 (j620.n + 1)⟩ : S_ref06_Writer))] (fun w hw => (R_ref06_Writer.ent (b := b0) (x := (⟨y625, w64 (j620.n + 1)⟩ : S_ref06_Writer)) _ _ _ (hw.sel (L' := R_ref06_Writer.b b0 (⟨y625, w64 (j620.n + 1)⟩ : S_ref06_Writer) A621 k621 ++ ([] ++ F)) [1, 0] (by kernel_rfl))).eq (by kernel_rfl)) ?_
      refine fin_end [] (by kernel_rfl) fun w' hw' => ?_
      have hq := Option.some.inj hres
      subst hq
      exact ⟨rfl, hw'.take (L' := [R_ref06_Writer b0 (⟨y625, w64 (j620.n + 1)⟩ : S_ref06_Writer)]) [0] [] (by kernel_rfl)⟩
/- 17 (*flywheel/flywheelref06.Writer).Put -/
def ref06_Writer_Put.l644 (a2 : Int) : Nat → Int → S_ref06_Writer → Option S_ref06_Writer
  | 0, _, _ => none
  | k + 1, x638, x639 =>
    (if 0 ≤ x638 then (if (IntKind.wrap .u64 (x638)) < 0 then none else
  (ref06_Writer_bit x639 (IntKind.wrap .u8 (bAnd .u32 (shR .u32 a2 (IntKind.wrap .u64 (x638))) 1))).bind fun y648 =>
  ref06_Writer_Put.l644 a2 k (w64 (x638 - 1)) y648) else some x639)
def ref06_Writer_Put.j649 (a1 : S_ref06_Writer) (a2 : Int) (a3 : Int) : Option S_ref06_Writer :=
  ref06_Writer_Put.l644 a2 FUEL (w64 (a3 - 1)) a1
def ref06_Writer_Put (a1 : S_ref06_Writer) (a2 : Int) (a3 : Int) : Option S_ref06_Writer :=
  (if a3 < 0 then some a1 else (if 32 < a3 then some a1 else (if (w64 (524288 - a1.n)) < a3 then some a1 else ref06_Writer_Put.j649 a1 a2 a3)))
theorem ref06_Writer_Put_ok {a1 : S_ref06_Writer} {a2 : Int} {a3 : Int} {b0 : Nat} {r : S_ref06_Writer} (hres : ref06_Writer_Put a1 a2 a3 = some r) {w0 w : World} {F : List Asn} (hw : SH w0 w ([R_ref06_Writer b0 a1] ++ F)) :
    Calls Try.prog 17 #[.pointer (some ⟨b0, 0, none⟩), .int .u32 a2, .int .i64 a3] w fun e w' => e = .returned (.tuple #[]) ∧ SH w0 w' ([R_ref06_Writer b0 r] ++ F) := by
  refine fw_enter (n := 36) (bs := [b0]) (env := [(0, .p 0 0), (1, U .u32 a2), (2, I a3)]) (H := [.a (R_ref06_Writer b0 a1)]) (F := F) Try.func17 rfl (by kernel_rfl) (by kernel_rfl) (by kernel_rfl) (hw.eq (by kernel_rfl)) ?_
  unfold ref06_Writer_Put at hres
  refine rn_join (V := Unit) (J := fun v => ref06_Writer_Put.j649 a1 a2 a3 = some r) (sv := fun v => ⟨[b0], [(0, .p 0 0), (1, U .u32 a2), (2, I a3)], [.a (R_ref06_Writer b0 a1)]⟩) ?_ ?_
  · refine rn_seq ?_
    refine rn_ex (V := Option Addr × Nat) (sv := fun v => ⟨[b0], [(0, .p 0 0), (1, U .u32 a2), (2, I a3)], [.c 0 [.v (.slice v.1 a1.b.length v.2), I a1.n] 94, .a (slA 5 (eI .u8) v.1 v.2 a1.b)]⟩) (fun w hw => ?_) (fun _ => by kernel_rfl) (fun _ => by kernel_rfl) ?_
    · obtain ⟨A329, k329, hw⟩ := R_ref06_Writer.out (hw.sel (L' := R_ref06_Writer b0 a1 :: ([] ++ F)) [0] (by kernel_rfl))
      exact ⟨(A329, k329), hw.eq (by kernel_rfl)⟩
    rintro ⟨A329, k329⟩
    refine rn_text ?_
    refine ro_q 3 [] [0, 1, 2, 9] [(0, .p 0 0), (1, U .u32 a2), (2, I a3), (9, B (decide (a3 < 0)))] [] (by kernel_rfl) trivial ?_
    refine ro_split 9 (decide (a3 < 0)) (by kernel_rfl) (fun c330 => ?_) (fun c330 => ?_)
    · rw [if_pos (of_decide_eq_true c330)] at hres
      refine ro_q 12 [] [0, 1, 2, 21] [(0, .p 0 0), (1, U .u32 a2), (2, I a3), (21, B true)] [] (by kernel_rfl) trivial ?_
      refine ro_end (by kernel_rfl) (fin_next ?_)
      refine rn_cond_t (by kernel_rfl) ?_
      refine rn_ret (fin_then_ret ?_)
      refine fin_fold [.a (R_ref06_Writer b0 a1)] (fun w hw => (R_ref06_Writer.ent (b := b0) (x := a1) _ _ _ (hw.sel (L' := R_ref06_Writer.b b0 a1 A329 k329 ++ ([] ++ F)) [0, 0] (by kernel_rfl))).eq (by kernel_rfl)) ?_
      refine fin_ret [] (by kernel_rfl) fun w' hw' => ?_
      have hq := Option.some.inj hres
      subst hq
      exact ⟨rfl, hw'.take (L' := [R_ref06_Writer b0 a1]) [0] [] (by kernel_rfl)⟩
    · rw [if_neg (of_decide_eq_false c330)] at hres
      refine ro_q 4 [] [0, 1, 2, 13] [(0, .p 0 0), (1, U .u32 a2), (2, I a3), (13, B (decide (32 < a3)))] [] (by kernel_rfl) trivial ?_
      refine ro_split 13 (decide (32 < a3)) (by kernel_rfl) (fun c331 => ?_) (fun c331 => ?_)
      · rw [if_pos (of_decide_eq_true c331)] at hres
        refine ro_q 8 [] [0, 1, 2, 21] [(0, .p 0 0), (1, U .u32 a2), (2, I a3), (21, B true)] [] (by kernel_rfl) trivial ?_
        refine ro_end (by kernel_rfl) (fin_next ?_)
        refine rn_cond_t (by kernel_rfl) ?_
        refine rn_ret (fin_then_ret ?_)
        refine fin_fold [.a (R_ref06_Writer b0 a1)] (fun w hw => (R_ref06_Writer.ent (b := b0) (x := a1) _ _ _ (hw.sel (L' := R_ref06_Writer.b b0 a1 A329 k329 ++ ([] ++ F)) [0, 0] (by kernel_rfl))).eq (by kernel_rfl)) ?_
        refine fin_ret [] (by kernel_rfl) fun w' hw' => ?_
        have hq := Option.some.inj hres
        subst hq
        exact ⟨rfl, hw'.take (L' := [R_ref06_Writer b0 a1]) [0] [] (by kernel_rfl)⟩
      · rw [if_neg (of_decide_eq_false c331)] at hres
        refine ro_q 8 [] [0, 1, 2, 21] [(0, .p 0 0), (1, U .u32 a2), (2, I a3), (21, B (decide ((w64 (524288 - a1.n)) < a3)))] [] (by kernel_rfl) trivial ?_
        refine ro_end (by kernel_rfl) (fin_next ?_)
        refine rn_cond (decide ((w64 (524288 - a1.n)) < a3)) (by kernel_rfl) (fun c332 => ?_) (fun c332 => ?_)
        · rw [if_pos (of_decide_eq_true c332)] at hres
          refine rn_ret (fin_then_ret ?_)
          refine fin_fold [.a (R_ref06_Writer b0 a1)] (fun w hw => (R_ref06_Writer.ent (b := b0) (x := a1) _ _ _ (hw.sel (L' := R_ref06_Writer.b b0 a1 A329 k329 ++ ([] ++ F)) [0, 0] (by kernel_rfl))).eq (by kernel_rfl)) ?_
          refine fin_ret [] (by kernel_rfl) fun w' hw' => ?_
          have hq := Option.some.inj hres
          subst hq
          exact ⟨rfl, hw'.take (L' := [R_ref06_Writer b0 a1]) [0] [] (by kernel_rfl)⟩
        · rw [if_neg (of_decide_eq_false c332)] at hres
          refine rn_skip (fin_then ?_)
          refine fin_fold [.a (R_ref06_Writer b0 a1)] (fun w hw => (R_ref06_Writer.ent (b := b0) (x := a1) _ _ _ (hw.sel (L' := R_ref06_Writer.b b0 a1 A329 k329 ++ ([] ++ F)) [0, 0] (by kernel_rfl))).eq (by kernel_rfl)) ?_
          refine fin_join () hres [0] [] (by kernel_rfl) (by kernel_rfl) (by kernel_rfl)
  · rintro ⟨⟩ hres
    unfold ref06_Writer_Put.j649 at hres
    refine rn_seq ?_
    refine rn_q [] [0, 1, 6] [(0, .p 0 0), (1, U .u32 a2), (6, I (w64 (a3 - 1)))] [] (by kernel_rfl) trivial (fin_next ?_)
    refine rn_block ?_
    refine rn_loop (V := Int × S_ref06_Writer) (J := fun k v => ref06_Writer_Put.l644 a2 k v.1 v.2 = some r) (sv := fun v => ⟨[b0], [(0, .p 0 0), (1, U .u32 a2), (6, I v.1)], [.a (R_ref06_Writer b0 v.2)]⟩) FUEL (w64 (a3 - 1), a1) hres (fun a w hs => hs.conv [0] (by kernel_rfl) (by kernel_rfl) ⟨[], by kernel_rfl⟩) ?_
    rintro k644 ⟨x638, x639⟩ hres
    rcases k644 with _ | k644
    · rw [ref06_Writer_Put.l644] at hres; cases hres
    · rw [ref06_Writer_Put.l644] at hres
      refine rn_seq ?_
      refine rn_seq ?_
      refine rn_q [] [0, 1, 6, 25] [(0, .p 0 0), (1, U .u32 a2), (6, I x638), (25, B (decide (0 ≤ x638)))] [] (by kernel_rfl) trivial (fin_next ?_)
      refine rn_cond (decide (0 ≤ x638)) (by kernel_rfl) (fun c645 => ?_) (fun c645 => ?_)
      · rw [if_pos (of_decide_eq_true c645)] at hres
        refine rn_skip (fin_next ?_)
        refine rn_seq ?_
        refine rn_block ?_
        have hy646 : ¬ (IntKind.wrap .u64 (x638)) < 0 := by intro hz; rw [if_pos hz] at hres; cases hres
        rw [if_neg hy646] at hres
        refine rn_text ?_
        refine ro_q 7 [(4, U .u32 (shR .u32 a2 (IntKind.wrap .u64 (x638))))] [0, 1, 6, 28, 34] [(0, .p 0 0), (1, U .u32 a2), (6, I x638), (28, .p 0 0), (34, U .u8 (IntKind.wrap .u8 (bAnd .u32 (shR .u32 a2 (IntKind.wrap .u64 (x638))) 1)))] [(smShr .u32 a2 .u64 (IntKind.wrap .u64 (x638)), .int .u32 (shR .u32 a2 (IntKind.wrap .u64 (x638))))] (by kernel_rfl) ⟨ob_shr hy646, trivial⟩ ?_
        refine bind_elim hres fun y648 hy648 hres => ?_
        refine ro_op (by kernel_rfl) (op_call (f := 32) (xs := #[(.tmp 28), (.tmp 34)]) (ats := #[63, 5]) (d := (some 35)) (args := #[.pointer (some ⟨b0, 0, none⟩), .int .u8 (IntKind.wrap .u8 (bAnd .u32 (shR .u32 a2 (IntKind.wrap .u64 (x638))) 1))]) (by kernel_rfl) (by kernel_rfl) (by kernel_rfl) (by kernel_rfl) fun w hw => (ref06_Writer_bit_ok (F := [] ++ F) hy648 (hw.sel [0] (by kernel_rfl : _ = [R_ref06_Writer b0 x639] ++ ([] ++ F)))).mono ?_)
        rintro _ w1 ⟨rfl, hw1⟩
        refine ⟨_, [b0], [.a (R_ref06_Writer b0 y648)], _, rfl, hw1.eq (by kernel_rfl), rfl, mt_same, ro_fin ?_⟩
        refine ro_end (by kernel_rfl) (fin_block (fin_next ?_))
        refine rn_q [] [0, 1, 6] [(0, .p 0 0), (1, U .u32 a2), (6, I (w64 (x638 - 1)))] [] (by kernel_rfl) trivial (fin_then ?_)
        refine fin_loop (w64 (x638 - 1), y648) hres [0] [] (by kernel_rfl) (by kernel_rfl) (by kernel_rfl)
      · rw [if_neg (of_decide_eq_false c645)] at hres
        refine rn_exit (fin_then_exit (fin_then_exit (fin_block_exit ?_)))
        refine fin_end [] (by kernel_rfl) fun w' hw' => ?_
        have hq := Option.some.inj hres
        subst hq
        exact ⟨rfl, hw'.take (L' := [R_ref06_Writer b0 x639]) [0] [] (by kernel_rfl)⟩
/- 18 flywheel/flywheelref10.alike -/
def ref10_alike.l10 (a1 : List Int) (a3 : Int) : Nat → Int → Option Int
  | 0, _ => none
  | k + 1, x5 =>
    (if (w64 (a3 + x5)) < (a1.length : Int) then (idx a1 (w64 (a3 + x5))).bind fun y12 =>
  (idx a1 a3).bind fun y13 =>
  (if y12 = y13 then ref10_alike.l10 a1 a3 k (w64 (x5 + 1)) else some x5) else some x5)
def ref10_alike (a1 : List Int) (a3 : Int) : Option Int :=
  (ref10_alike.l10 a1 a3 FUEL 0).bind fun e315 =>
  some e315
theorem ref10_alike_ok {a1 : List Int} {a3 : Int} {A2 : Option Addr} {k2 : Nat} {r : Int} (hres : ref10_alike a1 a3 = some r) {w0 w : World} {F : List Asn} (hA2 : RowT w0 F (eI .i64) A2 k2 a1) (hw : SH w0 w (F)) :
    Calls Try.prog 18 #[.slice A2 a1.length k2, .int .i64 a3] w fun e w' => e = .returned (.int .i64 r) ∧ SH w0 w' (F) := by
  refine fw_enter (n := 28) (bs := []) (env := [(0, .v (.slice A2 a1.length k2)), (1, I a3)]) (H := []) (F := F) Try.func18 rfl (by kernel_rfl) (by kernel_rfl) (by kernel_rfl) (hw.eq (by kernel_rfl)) ?_
  unfold ref10_alike at hres
  refine rn_seq ?_
  refine rn_q [] [0, 1] [(0, .v (.slice A2 a1.length k2)), (1, I a3)] [] (by kernel_rfl) trivial (fin_next ?_)
  refine rn_seq ?_
  refine rn_q [] [0, 1, 5] [(0, .v (.slice A2 a1.length k2)), (1, I a3), (5, I 0)] [] (by kernel_rfl) trivial (fin_next ?_)
  refine bind_elim hres fun e315 h4 hres => ?_
  refine rn_join (V := Int) (J := fun v => e315 = v) (sv := fun v => ⟨[], [(5, I v)], []⟩) ?_ ?_
  · refine rn_block ?_
    refine rn_loop (V := Int) (J := fun k v => ref10_alike.l10 a1 a3 k v = some e315) (sv := fun v => ⟨[], [(0, .v (.slice A2 a1.length k2)), (1, I a3), (5, I v)], []⟩) FUEL 0 h4 (fun a w hs => hs.conv [] (by kernel_rfl) (by kernel_rfl) ⟨[], by kernel_rfl⟩) ?_
    rintro k10 x5 h4
    rcases k10 with _ | k10
    · rw [ref10_alike.l10] at h4; cases h4
    · rw [ref10_alike.l10] at h4
      refine rn_seq ?_
      refine rn_seq ?_
      refine rn_case (decide ((w64 (a3 + x5)) < (a1.length : Int))) (fun c11 => ?_) (fun c11 => ?_)
      · rw [if_pos (of_decide_eq_true c11)] at h4
        refine bind_elim h4 fun y12 hy12 h4 => ?_
        refine bind_elim h4 fun y13 hy13 h4 => ?_
        refine rn_held (hden [] [] ++ F) (by kernel_rfl) ?_
        refine rh_q [] 12 [0, 1, 2, 3, 4, 5, 6] [] [0, 1, 5, 12] [(0, .v (.slice A2 a1.length k2)), (1, I a3), (5, I x5), (12, B (decide ((w64 (a3 + x5)) < (a1.length : Int))))] [true, true, true, true, true, true, true, false, false, false, false, false, false, false, false, false, false, false, false] [] rfl (by kernel_rfl) rfl [] [] (by kernel_rfl) (by kernel_rfl) trivial ?_
        refine rh_is 12 (decide ((w64 (a3 + x5)) < (a1.length : Int))) c11 (by kernel_rfl) ?_
        refine rh_q [] 0 [7, 8, 9, 10, 11, 12, 13, 14, 15, 16, 17, 18] [(11, .v (elP A2 ((w64 (a3 + x5)).toNat * 1 + 0))), (12, I y12), (15, .v (elP A2 (a3.toNat * 1 + 0))), (16, I y13)] [0, 1, 5, 24] [(0, .v (.slice A2 a1.length k2)), (1, I a3), (5, I x5), (24, B (y12 == y13))] [true, true, true, true, true, true, true, true, true, true, true, true, true, true, true, true, true, true, true] [(smIa 31 (.slice A2 a1.length k2) (.int .i64 (w64 (a3 + x5))), elP A2 ((w64 (a3 + x5)).toNat * 1 + 0)), (smLd 3 (elP A2 ((w64 (a3 + x5)).toNat * 1 + 0)), .int .i64 y12), (smIa 31 (.slice A2 a1.length k2) (.int .i64 a3), elP A2 (a3.toNat * 1 + 0)), (smLd 3 (elP A2 (a3.toNat * 1 + 0)), .int .i64 y13)] rfl (by kernel_rfl) rfl [] [] (by kernel_rfl) (by kernel_rfl) ⟨ob_ia (E := (eI .i64)) (U := 3) (i := (w64 (a3 + x5))) (sz := 1) (by kernel_rfl) (by kernel_rfl) (by kernel_rfl) hA2.app hy12, ⟨ob_ld1 (E := (eI .i64)) (i := (w64 (a3 + x5))) (sz := 1) (o := 0) (d := (.int .i64)) (by kernel_rfl) (by kernel_rfl) (by kernel_rfl) (by kernel_rfl) hA2.app hy12, ⟨ob_ia (E := (eI .i64)) (U := 3) (i := a3) (sz := 1) (by kernel_rfl) (by kernel_rfl) (by kernel_rfl) hA2.app hy13, ⟨ob_ld1 (E := (eI .i64)) (i := a3) (sz := 1) (o := 0) (d := (.int .i64)) (by kernel_rfl) (by kernel_rfl) (by kernel_rfl) (by kernel_rfl) hA2.app hy13, trivial⟩⟩⟩⟩ ?_
        refine rh_end (by kernel_rfl) (fin_next ?_)
        refine rn_cond (y12 == y13) (by kernel_rfl) (fun c14 => ?_) (fun c14 => ?_)
        · rw [if_pos (eq_t c14)] at h4
          refine rn_skip (fin_next ?_)
          refine rn_block ?_
          refine rn_q [] [0, 1, 5] [(0, .v (.slice A2 a1.length k2)), (1, I a3), (5, I (w64 (x5 + 1)))] [] (by kernel_rfl) trivial (fin_block (fin_then ?_))
          refine fin_loop (w64 (x5 + 1)) h4 [] [] (by kernel_rfl) (by kernel_rfl) (by kernel_rfl)
        · rw [if_neg (eq_f c14)] at h4
          refine rn_exit (fin_then_exit (fin_then_exit (fin_block_exit (fin_then ?_))))
          refine fin_join x5 (by cases h4; exact rfl) [] [] (by kernel_rfl) (by kernel_rfl) (by kernel_rfl)
      · rw [if_neg (of_decide_eq_false c11)] at h4
        refine rn_held (hden [] [] ++ F) (by kernel_rfl) ?_
        refine rh_q [] 12 [0, 1, 2, 3, 4, 5, 6] [] [0, 1, 5, 12] [(0, .v (.slice A2 a1.length k2)), (1, I a3), (5, I x5), (12, B (decide ((w64 (a3 + x5)) < (a1.length : Int))))] [true, true, true, true, true, true, true, false, false, false, false, false, false, false, false, false, false, false, false] [] rfl (by kernel_rfl) rfl [] [] (by kernel_rfl) (by kernel_rfl) trivial ?_
        refine rh_is 12 (decide ((w64 (a3 + x5)) < (a1.length : Int))) c11 (by kernel_rfl) ?_
        refine rh_q [] 0 [7, 8, 9, 10, 11, 12, 13, 14, 15, 16, 17, 18] [] [0, 1, 5, 24] [(0, .v (.slice A2 a1.length k2)), (1, I a3), (5, I x5), (24, B false)] [true, true, true, true, true, true, true, true, true, true, true, true, true, true, true, true, true, true, true] [] rfl (by kernel_rfl) rfl [] [] (by kernel_rfl) (by kernel_rfl) trivial ?_
        refine rh_end (by kernel_rfl) (fin_next ?_)
        refine rn_cond_f (by kernel_rfl) ?_
        refine rn_exit (fin_then_exit (fin_then_exit (fin_block_exit (fin_then ?_))))
        refine fin_join x5 (by cases h4; exact rfl) [] [] (by kernel_rfl) (by kernel_rfl) (by kernel_rfl)
  · rintro _ rfl
    refine rn_seq ?_
    refine rn_q [] [4] [(4, I e315)] [] (by kernel_rfl) trivial (fin_next ?_)
    refine rn_ret ?_
    refine fin_ret [.int .i64 e315] (by kernel_rfl) fun w' hw' => ?_
    have hq := Option.some.inj hres
    subst hq
    exact ⟨rfl, hw'.drop⟩
/- 19 flywheel/flywheelref10.row -/
def ref10_row.j1855 (r1 : Int → S_ref06_Writer → Option S_ref06_Writer) (a5 : Int) (x1239 : Int) (x1240 : S_ref06_Writer) (j1852 : Int) : Option S_ref06_Writer :=
  (ref06_Writer_Put x1240 (IntKind.wrap .u32 (j1852)) a5).bind fun y1854 =>
  r1 (w64 (x1239 + 1)) y1854
def ref10_row.l1548 (a2 : List Int) (a4 : Int) (a5 : Int) : Nat → Int → S_ref06_Writer → Option S_ref06_Writer
  | 0, _, _ => none
  | k + 1, x1239, x1240 =>
    (if x1239 < a4 then (if x1239 < (a2.length : Int) then (idx a2 x1239).bind fun y1551 =>
  ref10_row.j1855 (ref10_row.l1548 a2 a4 a5 k) a5 x1239 x1240 y1551 else ref10_row.j1855 (ref10_row.l1548 a2 a4 a5 k) a5 x1239 x1240 0) else some x1240)
def ref10_row (a1 : S_ref06_Writer) (a2 : List Int) (a4 : Int) (a5 : Int) : Option S_ref06_Writer :=
  ref10_row.l1548 a2 a4 a5 FUEL 0 a1
theorem ref10_row_ok {a1 : S_ref06_Writer} {a2 : List Int} {a4 : Int} {a5 : Int} {b0 : Nat} {A3 : Option Addr} {k3 : Nat} {r : S_ref06_Writer} (hres : ref10_row a1 a2 a4 a5 = some r) {w0 w : World} {F : List Asn} (hA3 : RowT w0 F (eI .i64) A3 k3 a2) (hw : SH w0 w ([R_ref06_Writer b0 a1] ++ F)) :
    Calls Try.prog 19 #[.pointer (some ⟨b0, 0, none⟩), .slice A3 a2.length k3, .int .i64 a4, .int .i64 a5] w fun e w' => e = .returned (.tuple #[]) ∧ SH w0 w' ([R_ref06_Writer b0 r] ++ F) := by
  refine fw_enter (n := 28) (bs := [b0]) (env := [(0, .p 0 0), (1, .v (.slice A3 a2.length k3)), (2, I a4), (3, I a5)]) (H := [.a (R_ref06_Writer b0 a1)]) (F := F) Try.func19 rfl (by kernel_rfl) (by kernel_rfl) (by kernel_rfl) (hw.eq (by kernel_rfl)) ?_
  unfold ref10_row at hres
  refine rn_seq ?_
  refine rn_q [] [0, 1, 2, 3, 8] [(0, .p 0 0), (1, .v (.slice A3 a2.length k3)), (2, I a4), (3, I a5), (8, I 0)] [] (by kernel_rfl) trivial (fin_next ?_)
  refine rn_block ?_
  refine rn_loop (V := Int × S_ref06_Writer) (J := fun k v => ref10_row.l1548 a2 a4 a5 k v.1 v.2 = some r) (sv := fun v => ⟨[b0], [(0, .p 0 0), (1, .v (.slice A3 a2.length k3)), (2, I a4), (3, I a5), (8, I v.1)], [.a (R_ref06_Writer b0 v.2)]⟩) FUEL (0, a1) hres (fun a w hs => hs.conv [0] (by kernel_rfl) (by kernel_rfl) ⟨[], by kernel_rfl⟩) ?_
  rintro k1548 ⟨x1239, x1240⟩ hres
  rcases k1548 with _ | k1548
  · rw [ref10_row.l1548] at hres; cases hres
  · rw [ref10_row.l1548] at hres
    refine rn_seq ?_
    refine rn_seq ?_
    refine rn_q [] [0, 1, 2, 3, 8, 12] [(0, .p 0 0), (1, .v (.slice A3 a2.length k3)), (2, I a4), (3, I a5), (8, I x1239), (12, B (decide (x1239 < a4)))] [] (by kernel_rfl) trivial (fin_next ?_)
    refine rn_cond (decide (x1239 < a4)) (by kernel_rfl) (fun c1549 => ?_) (fun c1549 => ?_)
    · rw [if_pos (of_decide_eq_true c1549)] at hres
      refine rn_skip (fin_next ?_)
      refine rn_seq ?_
      refine rn_block ?_
      refine rn_seq ?_
      refine rn_q [] [0, 1, 2, 3, 8, 9] [(0, .p 0 0), (1, .v (.slice A3 a2.length k3)), (2, I a4), (3, I a5), (8, I x1239), (9, I 0)] [] (by kernel_rfl) trivial (fin_next ?_)
      refine rn_join (V := Int) (J := fun v => ref10_row.j1855 (ref10_row.l1548 a2 a4 a5 k1548) a5 x1239 x1240 v = some r) (sv := fun v => ⟨[b0], [(0, .p 0 0), (1, .v (.slice A3 a2.length k3)), (2, I a4), (3, I a5), (8, I x1239), (9, I v)], [.a (R_ref06_Writer b0 x1240)]⟩) ?_ ?_
      · refine rn_seq ?_
        refine rn_q [] [0, 1, 2, 3, 8, 9, 18] [(0, .p 0 0), (1, .v (.slice A3 a2.length k3)), (2, I a4), (3, I a5), (8, I x1239), (9, I 0), (18, B (decide (x1239 < (a2.length : Int))))] [] (by kernel_rfl) trivial (fin_next ?_)
        refine rn_cond (decide (x1239 < (a2.length : Int))) (by kernel_rfl) (fun c1550 => ?_) (fun c1550 => ?_)
        · rw [if_pos (of_decide_eq_true c1550)] at hres
          refine bind_elim hres fun y1551 hy1551 hres => ?_
          refine rn_q [(2, .v (elP A3 (x1239.toNat * 1 + 0))), (3, I y1551)] [0, 1, 2, 3, 8, 9] [(0, .p 0 0), (1, .v (.slice A3 a2.length k3)), (2, I a4), (3, I a5), (8, I x1239), (9, I y1551)] [(smIa 31 (.slice A3 a2.length k3) (.int .i64 x1239), elP A3 (x1239.toNat * 1 + 0)), (smLd 3 (elP A3 (x1239.toNat * 1 + 0)), .int .i64 y1551)] (by kernel_rfl) ⟨ob_ia (E := (eI .i64)) (U := 3) (i := x1239) (sz := 1) (by kernel_rfl) (by kernel_rfl) (by kernel_rfl) hA3.app hy1551, ⟨ob_ld1 (E := (eI .i64)) (i := x1239) (sz := 1) (o := 0) (d := (.int .i64)) (by kernel_rfl) (by kernel_rfl) (by kernel_rfl) (by kernel_rfl) hA3.app hy1551, trivial⟩⟩ (fin_then ?_)
          refine fin_join y1551 hres [0] [] (by kernel_rfl) (by kernel_rfl) (by kernel_rfl)
        · rw [if_neg (of_decide_eq_false c1550)] at hres
          refine rn_skip (fin_then ?_)
          refine fin_join 0 hres [0] [] (by kernel_rfl) (by kernel_rfl) (by kernel_rfl)
      · rintro j1852 hres
        unfold ref10_row.j1855 at hres
        refine rn_text ?_
        refine ro_q 4 [] [0, 1, 2, 3, 8, 23, 25, 26] [(0, .p 0 0), (1, .v (.slice A3 a2.length k3)), (2, I a4), (3, I a5), (8, I x1239), (23, .p 0 0), (25, U .u32 (IntKind.wrap .u32 (j1852))), (26, I a5)] [] (by kernel_rfl) trivial ?_
        refine bind_elim hres fun y1854 hy1854 hres => ?_
        refine ro_op (by kernel_rfl) (op_call (f := 17) (xs := #[(.tmp 23), (.tmp 25), (.tmp 26)]) (ats := #[63, 41, 3]) (d := (some 27)) (args := #[.pointer (some ⟨b0, 0, none⟩), .int .u32 (IntKind.wrap .u32 (j1852)), .int .i64 a5]) (by kernel_rfl) (by kernel_rfl) (by kernel_rfl) (by kernel_rfl) fun w hw => (ref06_Writer_Put_ok (F := [] ++ F) hy1854 (hw.sel [0] (by kernel_rfl : _ = [R_ref06_Writer b0 x1240] ++ ([] ++ F)))).mono ?_)
        rintro _ w1 ⟨rfl, hw1⟩
        refine ⟨_, [b0], [.a (R_ref06_Writer b0 y1854)], _, rfl, hw1.eq (by kernel_rfl), rfl, mt_same, ro_fin ?_⟩
        refine ro_end (by kernel_rfl) (fin_block (fin_next ?_))
        refine rn_q [] [0, 1, 2, 3, 8] [(0, .p 0 0), (1, .v (.slice A3 a2.length k3)), (2, I a4), (3, I a5), (8, I (w64 (x1239 + 1)))] [] (by kernel_rfl) trivial (fin_then ?_)
        refine fin_loop (w64 (x1239 + 1), y1854) hres [0] [] (by kernel_rfl) (by kernel_rfl) (by kernel_rfl)
    · rw [if_neg (of_decide_eq_false c1549)] at hres
      refine rn_exit (fin_then_exit (fin_then_exit (fin_block_exit ?_)))
      refine fin_end [] (by kernel_rfl) fun w' hw' => ?_
      have hq := Option.some.inj hres
      subst hq
      exact ⟨rfl, hw'.take (L' := [R_ref06_Writer b0 x1240]) [0] [] (by kernel_rfl)⟩
/- 20 (*flywheel/flywheelref06.Writer).Align -/
def ref06_Writer_Align.l648 (a2 : Int) : Nat → S_ref06_Writer → Option S_ref06_Writer
  | 0, _ => none
  | k + 1, x642 =>
    (if a2 = 0 then none else
  (if (x642.n.tmod a2) = 0 then some x642 else (ref06_Writer_bit x642 0).bind fun y653 =>
  ref06_Writer_Align.l648 a2 k y653))
def ref06_Writer_Align.j654 (a1 : S_ref06_Writer) (a2 : Int) : Option S_ref06_Writer :=
  ref06_Writer_Align.l648 a2 FUEL a1
def ref06_Writer_Align (a1 : S_ref06_Writer) (a2 : Int) : Option S_ref06_Writer :=
  (if a2 < 1 then some a1 else (if 64 < a2 then some a1 else (if a2 = 0 then none else
  (if a2 = 0 then none else
  (if (w64 (524288 - a1.n)) < ((w64 (a2 - (a1.n.tmod a2))).tmod a2) then some a1 else ref06_Writer_Align.j654 a1 a2)))))
theorem ref06_Writer_Align_ok {a1 : S_ref06_Writer} {a2 : Int} {b0 : Nat} {r : S_ref06_Writer} (hres : ref06_Writer_Align a1 a2 = some r) {w0 w : World} {F : List Asn} (hw : SH w0 w ([R_ref06_Writer b0 a1] ++ F)) :
    Calls Try.prog 20 #[.pointer (some ⟨b0, 0, none⟩), .int .i64 a2] w fun e w' => e = .returned (.tuple #[]) ∧ SH w0 w' ([R_ref06_Writer b0 r] ++ F) := by
  refine fw_enter (n := 37) (bs := [b0]) (env := [(0, .p 0 0), (1, I a2)]) (H := [.a (R_ref06_Writer b0 a1)]) (F := F) Try.func20 rfl (by kernel_rfl) (by kernel_rfl) (by kernel_rfl) (hw.eq (by kernel_rfl)) ?_
  unfold ref06_Writer_Align at hres
  refine rn_join (V := Unit) (J := fun v => ref06_Writer_Align.j654 a1 a2 = some r) (sv := fun v => ⟨[b0], [(0, .p 0 0), (1, I a2)], [.a (R_ref06_Writer b0 a1)]⟩) ?_ ?_
  · refine rn_seq ?_
    refine rn_ex (V := Option Addr × Nat) (sv := fun v => ⟨[b0], [(0, .p 0 0), (1, I a2)], [.c 0 [.v (.slice v.1 a1.b.length v.2), I a1.n] 94, .a (slA 5 (eI .u8) v.1 v.2 a1.b)]⟩) (fun w hw => ?_) (fun _ => by kernel_rfl) (fun _ => by kernel_rfl) ?_
    · obtain ⟨A331, k331, hw⟩ := R_ref06_Writer.out (hw.sel (L' := R_ref06_Writer b0 a1 :: ([] ++ F)) [0] (by kernel_rfl))
      exact ⟨(A331, k331), hw.eq (by kernel_rfl)⟩
    rintro ⟨A331, k331⟩
    refine rn_case (decide (a2 < 1)) (fun c332 => ?_) (fun c332 => ?_)
    · rw [if_pos (of_decide_eq_true c332)] at hres
      refine rn_held (hden [b0] [.c 0 [.v (.slice A331 a1.b.length k331), I a1.n] 94, .a (slA 5 (eI .u8) A331 k331 a1.b)] ++ F) (by kernel_rfl) ?_
      refine rh_q [.c 0 [.v (.slice A331 a1.b.length k331), I a1.n] 94, .a (slA 5 (eI .u8) A331 k331 a1.b)] 21 [0, 1, 2] [] [0, 1, 6] [(0, .p 0 0), (1, I a2), (6, B (decide (a2 < 1)))] [true, true, true, false, false, false, false, false, false, false, false, false, false, false, false, false, false, false, false, false, false, false, false, false] [] rfl (by kernel_rfl) rfl [0, 0] [] (by kernel_rfl) (by kernel_rfl) trivial ?_
      refine rh_is 6 (decide (a2 < 1)) c332 (by kernel_rfl) ?_
      refine rh_q [.c 0 [.v (.slice A331 a1.b.length k331), I a1.n] 94, .a (slA 5 (eI .u8) A331 k331 a1.b)] 0 [3, 4, 5, 6, 7, 8, 9, 10, 11, 12, 13, 14, 15, 16, 17, 18, 19, 20, 21, 22, 23] [] [0, 1, 27] [(0, .p 0 0), (1, I a2), (27, B true)] [true, true, true, true, true, true, true, true, true, true, true, true, true, true, true, true, true, true, true, true, true, true, true, true] [] rfl (by kernel_rfl) rfl [0, 0] [] (by kernel_rfl) (by kernel_rfl) trivial ?_
      refine rh_end (by kernel_rfl) (fin_next ?_)
      refine rn_cond_t (by kernel_rfl) ?_
      refine rn_ret (fin_then_ret ?_)
      refine fin_fold [.a (R_ref06_Writer b0 a1)] (fun w hw => (R_ref06_Writer.ent (b := b0) (x := a1) _ _ _ (hw.sel (L' := R_ref06_Writer.b b0 a1 A331 k331 ++ ([] ++ F)) [0, 0] (by kernel_rfl))).eq (by kernel_rfl)) ?_
      refine fin_ret [] (by kernel_rfl) fun w' hw' => ?_
      have hq := Option.some.inj hres
      subst hq
      exact ⟨rfl, hw'.take (L' := [R_ref06_Writer b0 a1]) [0] [] (by kernel_rfl)⟩
    · rw [if_neg (of_decide_eq_false c332)] at hres
      refine rn_case (decide (64 < a2)) (fun c333 => ?_) (fun c333 => ?_)
      · rw [if_pos (of_decide_eq_true c333)] at hres
        refine rn_held (hden [b0] [.c 0 [.v (.slice A331 a1.b.length k331), I a1.n] 94, .a (slA 5 (eI .u8) A331 k331 a1.b)] ++ F) (by kernel_rfl) ?_
        refine rh_q [.c 0 [.v (.slice A331 a1.b.length k331), I a1.n] 94, .a (slA 5 (eI .u8) A331 k331 a1.b)] 21 [0, 1, 2] [] [0, 1, 6] [(0, .p 0 0), (1, I a2), (6, B (decide (a2 < 1)))] [true, true, true, false, false, false, false, false, false, false, false, false, false, false, false, false, false, false, false, false, false, false, false, false] [] rfl (by kernel_rfl) rfl [0, 0] [] (by kernel_rfl) (by kernel_rfl) trivial ?_
        refine rh_is 6 (decide (a2 < 1)) c332 (by kernel_rfl) ?_
        refine rh_q [.c 0 [.v (.slice A331 a1.b.length k331), I a1.n] 94, .a (slA 5 (eI .u8) A331 k331 a1.b)] 17 [3, 4, 5, 6] [] [0, 1, 10] [(0, .p 0 0), (1, I a2), (10, B (decide (64 < a2)))] [true, true, true, true, true, true, true, false, false, false, false, false, false, false, false, false, false, false, false, false, false, false, false, false] [] rfl (by kernel_rfl) rfl [0, 0] [] (by kernel_rfl) (by kernel_rfl) trivial ?_
        refine rh_is 10 (decide (64 < a2)) c333 (by kernel_rfl) ?_
        refine rh_q [.c 0 [.v (.slice A331 a1.b.length k331), I a1.n] 94, .a (slA 5 (eI .u8) A331 k331 a1.b)] 0 [7, 8, 9, 10, 11, 12, 13, 14, 15, 16, 17, 18, 19, 20, 21, 22, 23] [] [0, 1, 27] [(0, .p 0 0), (1, I a2), (27, B true)] [true, true, true, true, true, true, true, true, true, true, true, true, true, true, true, true, true, true, true, true, true, true, true, true] [] rfl (by kernel_rfl) rfl [0, 0] [] (by kernel_rfl) (by kernel_rfl) trivial ?_
        refine rh_end (by kernel_rfl) (fin_next ?_)
        refine rn_cond_t (by kernel_rfl) ?_
        refine rn_ret (fin_then_ret ?_)
        refine fin_fold [.a (R_ref06_Writer b0 a1)] (fun w hw => (R_ref06_Writer.ent (b := b0) (x := a1) _ _ _ (hw.sel (L' := R_ref06_Writer.b b0 a1 A331 k331 ++ ([] ++ F)) [0, 0] (by kernel_rfl))).eq (by kernel_rfl)) ?_
        refine fin_ret [] (by kernel_rfl) fun w' hw' => ?_
        have hq := Option.some.inj hres
        subst hq
        exact ⟨rfl, hw'.take (L' := [R_ref06_Writer b0 a1]) [0] [] (by kernel_rfl)⟩
      · rw [if_neg (of_decide_eq_false c333)] at hres
        have hy334 : ¬ a2 = 0 := by intro hz; rw [if_pos hz] at hres; cases hres
        rw [if_neg hy334] at hres
        have hy335 : ¬ a2 = 0 := by intro hz; rw [if_pos hz] at hres; cases hres
        rw [if_neg hy335] at hres
        refine rn_held (hden [b0] [.c 0 [.v (.slice A331 a1.b.length k331), I a1.n] 94, .a (slA 5 (eI .u8) A331 k331 a1.b)] ++ F) (by kernel_rfl) ?_
        refine rh_q [.c 0 [.v (.slice A331 a1.b.length k331), I a1.n] 94, .a (slA 5 (eI .u8) A331 k331 a1.b)] 21 [0, 1, 2] [] [0, 1, 6] [(0, .p 0 0), (1, I a2), (6, B (decide (a2 < 1)))] [true, true, true, false, false, false, false, false, false, false, false, false, false, false, false, false, false, false, false, false, false, false, false, false] [] rfl (by kernel_rfl) rfl [0, 0] [] (by kernel_rfl) (by kernel_rfl) trivial ?_
        refine rh_is 6 (decide (a2 < 1)) c332 (by kernel_rfl) ?_
        refine rh_q [.c 0 [.v (.slice A331 a1.b.length k331), I a1.n] 94, .a (slA 5 (eI .u8) A331 k331 a1.b)] 17 [3, 4, 5, 6] [] [0, 1, 10] [(0, .p 0 0), (1, I a2), (10, B (decide (64 < a2)))] [true, true, true, true, true, true, true, false, false, false, false, false, false, false, false, false, false, false, false, false, false, false, false, false] [] rfl (by kernel_rfl) rfl [0, 0] [] (by kernel_rfl) (by kernel_rfl) trivial ?_
        refine rh_is 10 (decide (64 < a2)) c333 (by kernel_rfl) ?_
        refine rh_q [.c 0 [.v (.slice A331 a1.b.length k331), I a1.n] 94, .a (slA 5 (eI .u8) A331 k331 a1.b)] 0 [7, 8, 9, 10, 11, 12, 13, 14, 15, 16, 17, 18, 19, 20, 21, 22, 23] [(13, I (a1.n.tmod a2)), (16, I ((w64 (a2 - (a1.n.tmod a2))).tmod a2))] [0, 1, 27] [(0, .p 0 0), (1, I a2), (27, B (decide ((w64 (524288 - a1.n)) < ((w64 (a2 - (a1.n.tmod a2))).tmod a2))))] [true, true, true, true, true, true, true, true, true, true, true, true, true, true, true, true, true, true, true, true, true, true, true, true] [(smRem .i64 a1.n a2, .int .i64 (a1.n.tmod a2)), (smRem .i64 (w64 (a2 - (a1.n.tmod a2))) a2, .int .i64 ((w64 (a2 - (a1.n.tmod a2))).tmod a2))] rfl (by kernel_rfl) rfl [0, 0] [] (by kernel_rfl) (by kernel_rfl) ⟨ob_rem hy334, ⟨ob_rem hy335, trivial⟩⟩ ?_
        refine rh_end (by kernel_rfl) (fin_next ?_)
        refine rn_cond (decide ((w64 (524288 - a1.n)) < ((w64 (a2 - (a1.n.tmod a2))).tmod a2))) (by kernel_rfl) (fun c336 => ?_) (fun c336 => ?_)
        · rw [if_pos (of_decide_eq_true c336)] at hres
          refine rn_ret (fin_then_ret ?_)
          refine fin_fold [.a (R_ref06_Writer b0 a1)] (fun w hw => (R_ref06_Writer.ent (b := b0) (x := a1) _ _ _ (hw.sel (L' := R_ref06_Writer.b b0 a1 A331 k331 ++ ([] ++ F)) [0, 0] (by kernel_rfl))).eq (by kernel_rfl)) ?_
          refine fin_ret [] (by kernel_rfl) fun w' hw' => ?_
          have hq := Option.some.inj hres
          subst hq
          exact ⟨rfl, hw'.take (L' := [R_ref06_Writer b0 a1]) [0] [] (by kernel_rfl)⟩
        · rw [if_neg (of_decide_eq_false c336)] at hres
          refine rn_skip (fin_then ?_)
          refine fin_fold [.a (R_ref06_Writer b0 a1)] (fun w hw => (R_ref06_Writer.ent (b := b0) (x := a1) _ _ _ (hw.sel (L' := R_ref06_Writer.b b0 a1 A331 k331 ++ ([] ++ F)) [0, 0] (by kernel_rfl))).eq (by kernel_rfl)) ?_
          refine fin_join () hres [0] [] (by kernel_rfl) (by kernel_rfl) (by kernel_rfl)
  · rintro ⟨⟩ hres
    unfold ref06_Writer_Align.j654 at hres
    refine rn_block ?_
    refine rn_loop (V := S_ref06_Writer) (J := fun k v => ref06_Writer_Align.l648 a2 k v = some r) (sv := fun v => ⟨[b0], [(0, .p 0 0), (1, I a2)], [.a (R_ref06_Writer b0 v)]⟩) FUEL a1 hres (fun a w hs => hs.conv [0] (by kernel_rfl) (by kernel_rfl) ⟨[], by kernel_rfl⟩) ?_
    rintro k648 x642 hres
    rcases k648 with _ | k648
    · rw [ref06_Writer_Align.l648] at hres; cases hres
    · rw [ref06_Writer_Align.l648] at hres
      refine rn_seq ?_
      refine rn_seq ?_
      refine rn_ex (V := Option Addr × Nat) (sv := fun v => ⟨[b0], [(0, .p 0 0), (1, I a2)], [.c 0 [.v (.slice v.1 x642.b.length v.2), I x642.n] 94, .a (slA 5 (eI .u8) v.1 v.2 x642.b)]⟩) (fun w hw => ?_) (fun _ => by kernel_rfl) (fun _ => by kernel_rfl) ?_
      · obtain ⟨A649, k649, hw⟩ := R_ref06_Writer.out (hw.sel (L' := R_ref06_Writer b0 x642 :: ([] ++ F)) [0] (by kernel_rfl))
        exact ⟨(A649, k649), hw.eq (by kernel_rfl)⟩
      rintro ⟨A649, k649⟩
      have hy650 : ¬ a2 = 0 := by intro hz; rw [if_pos hz] at hres; cases hres
      rw [if_neg hy650] at hres
      refine rn_q [(5, I (x642.n.tmod a2))] [0, 1, 34] [(0, .p 0 0), (1, I a2), (34, B ((x642.n.tmod a2) != 0))] [(smRem .i64 x642.n a2, .int .i64 (x642.n.tmod a2))] (by kernel_rfl) ⟨ob_rem hy650, trivial⟩ (fin_next ?_)
      refine rn_cond ((x642.n.tmod a2) != 0) (by kernel_rfl) (fun c651 => ?_) (fun c651 => ?_)
      · rw [if_neg (ne_t c651)] at hres
        refine rn_skip (fin_next ?_)
        refine rn_block ?_
        refine rn_text ?_
        refine ro_q 1 [] [0, 1, 35] [(0, .p 0 0), (1, I a2), (35, .p 0 0)] [] (by kernel_rfl) trivial ?_
        refine bind_elim hres fun y653 hy653 hres => ?_
        refine ro_fold [.a (R_ref06_Writer b0 x642)] (fun w hw => (R_ref06_Writer.ent (b := b0) (x := x642) _ _ _ (hw.sel (L' := R_ref06_Writer.b b0 x642 A649 k649 ++ ([] ++ F)) [0, 0] (by kernel_rfl))).eq (by kernel_rfl)) ?_
        refine ro_op (by kernel_rfl) (op_call (f := 32) (xs := #[(.tmp 35), (.const (.int .u8 0))]) (ats := #[63, 5]) (d := (some 36)) (args := #[.pointer (some ⟨b0, 0, none⟩), .int .u8 0]) (by kernel_rfl) (by kernel_rfl) (by kernel_rfl) (by kernel_rfl) fun w hw => (ref06_Writer_bit_ok (F := [] ++ F) hy653 (hw.sel [0] (by kernel_rfl : _ = [R_ref06_Writer b0 x642] ++ ([] ++ F)))).mono ?_)
        rintro _ w1 ⟨rfl, hw1⟩
        refine ⟨_, [b0], [.a (R_ref06_Writer b0 y653)], _, rfl, hw1.eq (by kernel_rfl), rfl, mt_same, ro_fin ?_⟩
        refine ro_end (by kernel_rfl) (fin_block (fin_then ?_))
        refine fin_loop y653 hres [0] [] (by kernel_rfl) (by kernel_rfl) (by kernel_rfl)
      · rw [if_pos (ne_f c651)] at hres
        refine rn_exit (fin_then_exit (fin_then_exit (fin_block_exit ?_)))
        refine fin_fold [.a (R_ref06_Writer b0 x642)] (fun w hw => (R_ref06_Writer.ent (b := b0) (x := x642) _ _ _ (hw.sel (L' := R_ref06_Writer.b b0 x642 A649 k649 ++ ([] ++ F)) [0, 0] (by kernel_rfl))).eq (by kernel_rfl)) ?_
        refine fin_end [] (by kernel_rfl) fun w' hw' => ?_
        have hq := Option.some.inj hres
        subst hq
        exact ⟨rfl, hw'.take (L' := [R_ref06_Writer b0 x642]) [0] [] (by kernel_rfl)⟩
/- 21 (*flywheel/flywheelref06.Writer).Text -/
def ref06_Writer_Text (a1 : S_ref06_Writer) : Option ByteArray :=
  some (bS a1.b)
theorem ref06_Writer_Text_ok {a1 : S_ref06_Writer} {b0 : Nat} {r : ByteArray} (hres : ref06_Writer_Text a1 = some r) {w0 w : World} {F : List Asn} (hw : SH w0 w ([R_ref06_Writer b0 a1] ++ F)) :
    Calls Try.prog 21 #[.pointer (some ⟨b0, 0, none⟩)] w fun e w' => e = .returned (.string r) ∧ SH w0 w' ([R_ref06_Writer b0 a1] ++ F) := by
  refine fw_enter (n := 8) (bs := [b0]) (env := [(0, .p 0 0)]) (H := [.a (R_ref06_Writer b0 a1)]) (F := F) Try.func21 rfl (by kernel_rfl) (by kernel_rfl) (by kernel_rfl) (hw.eq (by kernel_rfl)) ?_
  unfold ref06_Writer_Text at hres
  refine rn_seq ?_
  refine rn_q [] [0] [(0, .p 0 0)] [] (by kernel_rfl) trivial (fin_next ?_)
  refine rn_seq ?_
  refine rn_ex (V := Option Addr × Nat) (sv := fun v => ⟨[b0], [(0, .p 0 0)], [.c 0 [.v (.slice v.1 a1.b.length v.2), I a1.n] 94, .a (slA 5 (eI .u8) v.1 v.2 a1.b)]⟩) (fun w hw => ?_) (fun _ => by kernel_rfl) (fun _ => by kernel_rfl) ?_
  · obtain ⟨A2, k2, hw⟩ := R_ref06_Writer.out (hw.sel (L' := R_ref06_Writer b0 a1 :: ([] ++ F)) [0] (by kernel_rfl))
    exact ⟨(A2, k2), hw.eq (by kernel_rfl)⟩
  rintro ⟨A2, k2⟩
  refine rn_q [(4, S (bS a1.b))] [2] [(2, S (bS a1.b))] [(smCv 47 9 (.slice A2 a1.b.length k2), .string (bS a1.b))] (by kernel_rfl) ⟨ob_bS (U := 5) (by kernel_rfl) (by kernel_rfl) (by kernel_rfl) (row_at (U := 5) (E := (eI .u8)) (A := A2) (c := k2) (L := a1.b) 1 (by kernel_rfl)), trivial⟩ (fin_next ?_)
  refine rn_ret ?_
  refine fin_fold [.a (R_ref06_Writer b0 a1)] (fun w hw => (R_ref06_Writer.ent (b := b0) (x := a1) _ _ _ (hw.sel (L' := R_ref06_Writer.b b0 a1 A2 k2 ++ ([] ++ F)) [0, 0] (by kernel_rfl))).eq (by kernel_rfl)) ?_
  refine fin_ret [.string (bS a1.b)] (by kernel_rfl) fun w' hw' => ?_
  have hq := Option.some.inj hres
  subst hq
  exact ⟨rfl, hw'.take (L' := [R_ref06_Writer b0 a1]) [0] [] (by kernel_rfl)⟩
end Fl
