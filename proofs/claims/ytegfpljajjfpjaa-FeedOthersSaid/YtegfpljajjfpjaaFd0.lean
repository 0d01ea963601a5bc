import Derived.Test.YtegfpljajjfpjaaFwT
import Derived.Test.YtegfpljajjfpjaaProg
set_option linter.unusedVariables false
set_option maxRecDepth 100000
set_option maxHeartbeats 8000000
namespace Fl
open Go Go.Proofs Fw
structure S_api_Part where
  Count : Int
  Type_ : Int
  Body : ByteArray
def e_api_Part : Enc S_api_Part := ⟨3, fun x => [.int .i64 x.Count, .int .i64 x.Type_, .string x.Body], fun _ => rfl, fun _ v hv => by simp at hv; rcases hv with rfl | rfl | rfl <;> rfl, by decide⟩
/- 6 flywheel/flywheelref08.Join -/
def ref08_Join.j688 (r1 : Int → Option (ByteArray × Int)) (x4 : Int) (j686 : Bool) : Option (ByteArray × Int) :=
  (if j686 = true then some ((⟨#[]⟩ : ByteArray), 1) else r1 (w64 (x4 + 1)))
def ref08_Join.l738 (a1 : List S_api_Part) : Nat → (List Int) → Int → Option (ByteArray × Int)
  | 0, _, _ => none
  | k + 1, x725, x727 =>
    (if x727 < (a1.length : Int) then (idx a1 x727).bind fun y740 =>
  (idx a1 x727).bind fun y741 =>
  (idx a1 x727).bind fun y742 =>
  (cat 140737488355328 x725 [IntKind.wrap .u8 (w64 (128 + y741.Count)), IntKind.wrap .u8 (y742.Type_), IntKind.wrap .u8 ((w64 ((y740.Body.size : Int).tdiv 4)).fdiv 256), IntKind.wrap .u8 (w64 ((y740.Body.size : Int).tdiv 4))]).bind fun y744 =>
  (idx a1 x727).bind fun y746 =>
  (cat 140737488355328 y744 (sB y746.Body)).bind fun y747 =>
  ref08_Join.l738 a1 k y747 (w64 (x727 + 1)) else some (bS x725, 0))
def ref08_Join.l720 (a1 : List S_api_Part) : Nat → Int → Int → Option (ByteArray × Int)
  | 0, _, _ => none
  | k + 1, x689, x690 =>
    (if x690 < (a1.length : Int) then (idx a1 x690).bind fun y722 =>
  (if 65536 < (w64 (x689 + (w64 (4 + (y722.Body.size : Int))))) then some ((⟨#[]⟩ : ByteArray), 2) else ref08_Join.l720 a1 k (w64 (x689 + (w64 (4 + (y722.Body.size : Int))))) (w64 (x690 + 1))) else ref08_Join.l738 a1 FUEL [] 0)
def ref08_Join.l377 (a1 : List S_api_Part) : Nat → Int → Option (ByteArray × Int)
  | 0, _ => none
  | k + 1, x4 =>
    (if x4 < (a1.length : Int) then (idx a1 x4).bind fun y379 =>
  (if y379.Count < 0 then ref08_Join.j688 (ref08_Join.l377 a1 k) x4 true else (if 31 < y379.Count then ref08_Join.j688 (ref08_Join.l377 a1 k) x4 true else (if y379.Type_ < 192 then ref08_Join.j688 (ref08_Join.l377 a1 k) x4 true else (if 223 < y379.Type_ then ref08_Join.j688 (ref08_Join.l377 a1 k) x4 true else (if ((y379.Body.size : Int).tmod 4) = 0 then ref08_Join.j688 (ref08_Join.l377 a1 k) x4 (decide (262140 < (y379.Body.size : Int))) else ref08_Join.j688 (ref08_Join.l377 a1 k) x4 true))))) else ref08_Join.l720 a1 FUEL 0 0)
def ref08_Join (a1 : List S_api_Part) : Option (ByteArray × Int) :=
  (if (a1.length : Int) = 0 then some ((⟨#[]⟩ : ByteArray), 1) else ref08_Join.l377 a1 FUEL 0)
theorem ref08_Join_ok {a1 : List S_api_Part} {A2 : Option Addr} {k2 : Nat} {r : ByteArray × Int} (hres : ref08_Join a1 = some r) {w0 w : World} {F : List Asn} (hA2 : RowT w0 F e_api_Part A2 k2 a1) (hw : SH w0 w (F)) :
    Calls Try.prog 6 #[.slice A2 a1.length k2] w fun e w' => e = .returned (.tuple #[.string r.1, .int .i64 r.2]) ∧ SH w0 w' (F) := by
  refine fw_enter (n := 115) (bs := []) (env := [(0, .v (.slice A2 a1.length k2))]) (H := []) (F := F) Try.func6 rfl (by kernel_rfl) (by kernel_rfl) (by kernel_rfl) (hw.eq (by kernel_rfl)) ?_
  unfold ref08_Join at hres
  refine rn_seq ?_
  refine rn_q [] [0] [(0, .v (.slice A2 a1.length k2))] [] (by kernel_rfl) trivial (fin_next ?_)
  refine rn_seq ?_
  refine rn_seq ?_
  refine rn_q [] [0, 13] [(0, .v (.slice A2 a1.length k2)), (13, B ((a1.length : Int) == 0))] [] (by kernel_rfl) trivial (fin_next ?_)
  refine rn_cond ((a1.length : Int) == 0) (by kernel_rfl) (fun c3 => ?_) (fun c3 => ?_)
  · rw [if_pos (eq_t c3)] at hres
    refine rn_seq ?_
    refine rn_q [] [2, 3] [(2, S (⟨#[]⟩ : ByteArray)), (3, I 1)] [] (by kernel_rfl) trivial (fin_next ?_)
    refine rn_ret (fin_then_ret ?_)
    refine fin_ret [.string (⟨#[]⟩ : ByteArray), .int .i64 1] (by kernel_rfl) fun w' hw' => ?_
    have hq := Option.some.inj hres
    subst hq
    exact ⟨rfl, hw'.drop⟩
  · rw [if_neg (eq_f c3)] at hres
    refine rn_skip (fin_next ?_)
    refine rn_seq ?_
    refine rn_seq ?_
    refine rn_q [] [0, 4] [(0, .v (.slice A2 a1.length k2)), (4, I 0)] [] (by kernel_rfl) trivial (fin_next ?_)
    refine rn_block ?_
    refine rn_loop (V := Int) (J := fun k v => ref08_Join.l377 a1 k v = some r) (sv := fun v => ⟨[], [(0, .v (.slice A2 a1.length k2)), (4, I v)], []⟩) FUEL 0 hres (fun a w hs => hs.conv [] (by kernel_rfl) (by kernel_rfl) ⟨[], by kernel_rfl⟩) ?_
    rintro k377 x4 hres
    rcases k377 with _ | k377
    · rw [ref08_Join.l377] at hres; cases hres
    · rw [ref08_Join.l377] at hres
      refine rn_seq ?_
      refine rn_seq ?_
      refine rn_q [] [0, 4, 17] [(0, .v (.slice A2 a1.length k2)), (4, I x4), (17, B (decide (x4 < (a1.length : Int))))] [] (by kernel_rfl) trivial (fin_next ?_)
      refine rn_cond (decide (x4 < (a1.length : Int))) (by kernel_rfl) (fun c378 => ?_) (fun c378 => ?_)
      · rw [if_pos (of_decide_eq_true c378)] at hres
        refine rn_skip (fin_next ?_)
        refine rn_seq ?_
        refine rn_block ?_
        refine rn_seq ?_
        refine bind_elim hres fun y379 hy379 hres => ?_
        refine rn_text ?_
        refine ro_q 4 [(2, .v (elP A2 (x4.toNat * 3 + 0))), (3, .v (.agg #[.int .i64 y379.Count, .int .i64 y379.Type_, .string y379.Body]))] [0, 4, 23] [(0, .v (.slice A2 a1.length k2)), (4, I x4), (23, .v (.agg #[.int .i64 y379.Count, .int .i64 y379.Type_, .string y379.Body]))] [(smIa 23 (.slice A2 a1.length k2) (.int .i64 x4), elP A2 (x4.toNat * 3 + 0)), (smLd 27 (elP A2 (x4.toNat * 3 + 0)), .agg #[.int .i64 y379.Count, .int .i64 y379.Type_, .string y379.Body])] (by kernel_rfl) ⟨ob_ia (E := e_api_Part) (U := 27) (i := x4) (sz := 3) (by kernel_rfl) (by kernel_rfl) (by kernel_rfl) hA2.app hy379, ⟨ob_lda (E := e_api_Part) (i := x4) (sz := 3) (o := 0) (vs := [.int .i64 y379.Count, .int .i64 y379.Type_, .string y379.Body]) (d := ((Try.prog.underlying 27).get rfl)) (by kernel_rfl) (by kernel_rfl) (tz := 3) (by kernel_rfl) (by kernel_rfl) (by kernel_rfl) (by kernel_rfl) hA2.app hy379, trivial⟩⟩ ?_
        refine ro_op (by kernel_rfl) (op_alloc 27 5 (.agg #[.int .i64 0, .int .i64 0, .string (⟨#[]⟩ : ByteArray)]) [I 0, I 0, S (⟨#[]⟩ : ByteArray)] (fun b380 => [b380]) (fun b380 => [.c 0 [I 0, I 0, S (⟨#[]⟩ : ByteArray)] 27]) (by kernel_rfl) (by kernel_rfl) (by kernel_rfl) (by kernel_rfl) 0 (fun _ => by kernel_rfl) (fun _ => mt_bs (by kernel_rfl)) (fun _ => by kernel_rfl) (fun b380 => ro_fin ?_))
        refine ro_op (by kernel_rfl) (op_store 27 (.tmp 5) (.tmp 23) 0 0 (.v (.agg #[.int .i64 y379.Count, .int .i64 y379.Type_, .string y379.Body])) [.c 0 [I y379.Count, I y379.Type_, S y379.Body] 27] (by kernel_rfl) (by kernel_rfl) (by kernel_rfl) (by kernel_rfl) (ro_fin ?_))
        refine ro_end (by kernel_rfl) (fin_next ?_)
        refine rn_join (V := Bool) (J := fun v => ref08_Join.j688 (ref08_Join.l377 a1 k377) x4 v = some r) (sv := fun v => ⟨[0], [(0, .v (.slice A2 a1.length k2)), (4, I x4), (54, B v)], []⟩) ?_ ?_
        · refine rn_text ?_
          refine ro_q 4 [] [0, 4, 5, 27] [(0, .v (.slice A2 a1.length k2)), (4, I x4), (5, .p 0 0), (27, B (decide (y379.Count < 0)))] [] (by kernel_rfl) trivial ?_
          refine ro_split 27 (decide (y379.Count < 0)) (by kernel_rfl) (fun c381 => ?_) (fun c381 => ?_)
          · rw [if_pos (of_decide_eq_true c381)] at hres
            refine ro_q 27 [] [0, 4, 54] [(0, .v (.slice A2 a1.length k2)), (4, I x4), (54, B true)] [] (by kernel_rfl) trivial ?_
            refine ro_end (by kernel_rfl) (fin_then ?_)
            refine fin_join true hres [] [cellsA b380 [.int .i64 y379.Count, .int .i64 y379.Type_, .string y379.Body] 27] (by kernel_rfl) (by kernel_rfl) (by kernel_rfl)
          · rw [if_neg (of_decide_eq_false c381)] at hres
            refine ro_q 5 [] [0, 4, 5, 32] [(0, .v (.slice A2 a1.length k2)), (4, I x4), (5, .p 0 0), (32, B (decide (31 < y379.Count)))] [] (by kernel_rfl) trivial ?_
            refine ro_split 32 (decide (31 < y379.Count)) (by kernel_rfl) (fun c382 => ?_) (fun c382 => ?_)
            · rw [if_pos (of_decide_eq_true c382)] at hres
              refine ro_q 22 [] [0, 4, 54] [(0, .v (.slice A2 a1.length k2)), (4, I x4), (54, B true)] [] (by kernel_rfl) trivial ?_
              refine ro_end (by kernel_rfl) (fin_then ?_)
              refine fin_join true hres [] [cellsA b380 [.int .i64 y379.Count, .int .i64 y379.Type_, .string y379.Body] 27] (by kernel_rfl) (by kernel_rfl) (by kernel_rfl)
            · rw [if_neg (of_decide_eq_false c382)] at hres
              refine ro_q 5 [] [0, 4, 5, 37] [(0, .v (.slice A2 a1.length k2)), (4, I x4), (5, .p 0 0), (37, B (decide (y379.Type_ < 192)))] [] (by kernel_rfl) trivial ?_
              refine ro_split 37 (decide (y379.Type_ < 192)) (by kernel_rfl) (fun c383 => ?_) (fun c383 => ?_)
              · rw [if_pos (of_decide_eq_true c383)] at hres
                refine ro_q 17 [] [0, 4, 54] [(0, .v (.slice A2 a1.length k2)), (4, I x4), (54, B true)] [] (by kernel_rfl) trivial ?_
                refine ro_end (by kernel_rfl) (fin_then ?_)
                refine fin_join true hres [] [cellsA b380 [.int .i64 y379.Count, .int .i64 y379.Type_, .string y379.Body] 27] (by kernel_rfl) (by kernel_rfl) (by kernel_rfl)
              · rw [if_neg (of_decide_eq_false c383)] at hres
                refine ro_q 5 [] [0, 4, 5, 42] [(0, .v (.slice A2 a1.length k2)), (4, I x4), (5, .p 0 0), (42, B (decide (223 < y379.Type_)))] [] (by kernel_rfl) trivial ?_
                refine ro_split 42 (decide (223 < y379.Type_)) (by kernel_rfl) (fun c384 => ?_) (fun c384 => ?_)
                · rw [if_pos (of_decide_eq_true c384)] at hres
                  refine ro_q 12 [] [0, 4, 54] [(0, .v (.slice A2 a1.length k2)), (4, I x4), (54, B true)] [] (by kernel_rfl) trivial ?_
                  refine ro_end (by kernel_rfl) (fin_then ?_)
                  refine fin_join true hres [] [cellsA b380 [.int .i64 y379.Count, .int .i64 y379.Type_, .string y379.Body] 27] (by kernel_rfl) (by kernel_rfl) (by kernel_rfl)
                · rw [if_neg (of_decide_eq_false c384)] at hres
                  refine ro_q 7 [] [0, 4, 5, 49] [(0, .v (.slice A2 a1.length k2)), (4, I x4), (5, .p 0 0), (49, B (((y379.Body.size : Int).tmod 4) != 0))] [] (by kernel_rfl) trivial ?_
                  refine ro_split 49 (((y379.Body.size : Int).tmod 4) != 0) (by kernel_rfl) (fun c385 => ?_) (fun c385 => ?_)
                  · rw [if_neg (ne_t c385)] at hres
                    refine ro_q 5 [] [0, 4, 54] [(0, .v (.slice A2 a1.length k2)), (4, I x4), (54, B true)] [] (by kernel_rfl) trivial ?_
                    refine ro_end (by kernel_rfl) (fin_then ?_)
                    refine fin_join true hres [] [cellsA b380 [.int .i64 y379.Count, .int .i64 y379.Type_, .string y379.Body] 27] (by kernel_rfl) (by kernel_rfl) (by kernel_rfl)
                  · rw [if_pos (ne_f c385)] at hres
                    refine ro_q 5 [] [0, 4, 54] [(0, .v (.slice A2 a1.length k2)), (4, I x4), (54, B (decide (262140 < (y379.Body.size : Int))))] [] (by kernel_rfl) trivial ?_
                    refine ro_end (by kernel_rfl) (fin_then ?_)
                    refine fin_join (decide (262140 < (y379.Body.size : Int))) hres [] [cellsA b380 [.int .i64 y379.Count, .int .i64 y379.Type_, .string y379.Body] 27] (by kernel_rfl) (by kernel_rfl) (by kernel_rfl)
        · rintro j686 hres
          unfold ref08_Join.j688 at hres
          refine rn_cond (j686) (by kernel_rfl) (fun c687 => ?_) (fun c687 => ?_)
          · rw [if_pos (c687)] at hres
            refine rn_seq ?_
            refine rn_q [] [2, 3] [(2, S (⟨#[]⟩ : ByteArray)), (3, I 1)] [] (by kernel_rfl) trivial (fin_next ?_)
            refine rn_ret (fin_block_ret (fin_then_ret (fin_then_ret (fin_block_ret (fin_then_ret ?_)))))
            refine fin_ret [.string (⟨#[]⟩ : ByteArray), .int .i64 1] (by kernel_rfl) fun w' hw' => ?_
            have hq := Option.some.inj hres
            subst hq
            exact ⟨rfl, hw'.drop⟩
          · rw [if_neg (nt_of_f c687)] at hres
            refine rn_skip (fin_block (fin_next ?_))
            refine rn_q [] [0, 4] [(0, .v (.slice A2 a1.length k2)), (4, I (w64 (x4 + 1)))] [] (by kernel_rfl) trivial (fin_then ?_)
            refine fin_loop (w64 (x4 + 1)) hres [] [] (by kernel_rfl) (by kernel_rfl) (by kernel_rfl)
      · rw [if_neg (of_decide_eq_false c378)] at hres
        refine rn_exit (fin_then_exit (fin_then_exit (fin_block_exit (fin_next ?_))))
        refine rn_seq ?_
        refine rn_q [] [0, 6] [(0, .v (.slice A2 a1.length k2)), (6, I 0)] [] (by kernel_rfl) trivial (fin_next ?_)
        refine rn_seq ?_
        refine rn_seq ?_
        refine rn_q [] [0, 6, 7] [(0, .v (.slice A2 a1.length k2)), (6, I 0), (7, I 0)] [] (by kernel_rfl) trivial (fin_next ?_)
        refine rn_block ?_
        refine rn_loop (V := Int × Int) (J := fun k v => ref08_Join.l720 a1 k v.1 v.2 = some r) (sv := fun v => ⟨[], [(0, .v (.slice A2 a1.length k2)), (6, I v.1), (7, I v.2)], []⟩) FUEL (0, 0) hres (fun a w hs => hs.conv [] (by kernel_rfl) (by kernel_rfl) ⟨[], by kernel_rfl⟩) ?_
        rintro k720 ⟨x689, x690⟩ hres
        rcases k720 with _ | k720
        · rw [ref08_Join.l720] at hres; cases hres
        · rw [ref08_Join.l720] at hres
          refine rn_seq ?_
          refine rn_seq ?_
          refine rn_q [] [0, 6, 7, 58] [(0, .v (.slice A2 a1.length k2)), (6, I x689), (7, I x690), (58, B (decide (x690 < (a1.length : Int))))] [] (by kernel_rfl) trivial (fin_next ?_)
          refine rn_cond (decide (x690 < (a1.length : Int))) (by kernel_rfl) (fun c721 => ?_) (fun c721 => ?_)
          · rw [if_pos (of_decide_eq_true c721)] at hres
            refine rn_skip (fin_next ?_)
            refine rn_seq ?_
            refine rn_block ?_
            refine rn_seq ?_
            refine bind_elim hres fun y722 hy722 hres => ?_
            refine rn_q [(3, .v (elP A2 (x690.toNat * 3 + 0))), (4, .v (elP A2 (x690.toNat * 3 + 2))), (5, S y722.Body)] [0, 6, 7] [(0, .v (.slice A2 a1.length k2)), (6, I (w64 (x689 + (w64 (4 + (y722.Body.size : Int)))))), (7, I x690)] [(smIa 23 (.slice A2 a1.length k2) (.int .i64 x690), elP A2 (x690.toNat * 3 + 0)), (smFa 27 (elP A2 (x690.toNat * 3 + 0)) 2, elP A2 (x690.toNat * 3 + 2)), (smLd 9 (elP A2 (x690.toNat * 3 + 2)), .string y722.Body)] (by kernel_rfl) ⟨ob_ia (E := e_api_Part) (U := 27) (i := x690) (sz := 3) (by kernel_rfl) (by kernel_rfl) (by kernel_rfl) hA2.app hy722, ⟨ob_fa (E := e_api_Part) (i := x690) (sz := 3) (o := 0) (d := 2) (by kernel_rfl) (by kernel_rfl) hA2.app hy722, ⟨ob_ld1 (E := e_api_Part) (i := x690) (sz := 3) (o := 2) (d := .string) (by kernel_rfl) (by kernel_rfl) (by kernel_rfl) (by kernel_rfl) hA2.app hy722, trivial⟩⟩⟩ (fin_next ?_)
            refine rn_seq ?_
            refine rn_q [] [0, 6, 7, 71] [(0, .v (.slice A2 a1.length k2)), (6, I (w64 (x689 + (w64 (4 + (y722.Body.size : Int)))))), (7, I x690), (71, B (decide (65536 < (w64 (x689 + (w64 (4 + (y722.Body.size : Int))))))))] [] (by kernel_rfl) trivial (fin_next ?_)
            refine rn_cond (decide (65536 < (w64 (x689 + (w64 (4 + (y722.Body.size : Int))))))) (by kernel_rfl) (fun c723 => ?_) (fun c723 => ?_)
            · rw [if_pos (of_decide_eq_true c723)] at hres
              refine rn_seq ?_
              refine rn_q [] [2, 3] [(2, S (⟨#[]⟩ : ByteArray)), (3, I 2)] [] (by kernel_rfl) trivial (fin_next ?_)
              refine rn_ret (fin_block_ret (fin_then_ret (fin_then_ret (fin_block_ret (fin_then_ret ?_)))))
              refine fin_ret [.string (⟨#[]⟩ : ByteArray), .int .i64 2] (by kernel_rfl) fun w' hw' => ?_
              have hq := Option.some.inj hres
              subst hq
              exact ⟨rfl, hw'.drop⟩
            · rw [if_neg (of_decide_eq_false c723)] at hres
              refine rn_skip (fin_block (fin_next ?_))
              refine rn_q [] [0, 6, 7] [(0, .v (.slice A2 a1.length k2)), (6, I (w64 (x689 + (w64 (4 + (y722.Body.size : Int)))))), (7, I (w64 (x690 + 1)))] [] (by kernel_rfl) trivial (fin_then ?_)
              refine fin_loop (w64 (x689 + (w64 (4 + (y722.Body.size : Int)))), w64 (x690 + 1)) hres [] [] (by kernel_rfl) (by kernel_rfl) (by kernel_rfl)
          · rw [if_neg (of_decide_eq_false c721)] at hres
            refine rn_exit (fin_then_exit (fin_then_exit (fin_block_exit (fin_next ?_))))
            refine rn_seq ?_
            refine rn_q [] [0, 8] [(0, .v (.slice A2 a1.length k2)), (8, .v (.slice none 0 0))] [] (by kernel_rfl) trivial (fin_next ?_)
            refine rn_seq ?_
            refine rn_seq ?_
            refine rn_q [] [0, 8, 9] [(0, .v (.slice A2 a1.length k2)), (8, .v (.slice none 0 0)), (9, I 0)] [] (by kernel_rfl) trivial (fin_next ?_)
            refine rn_block ?_
            refine rn_nil 5 (eI .u8) ?_
            refine rn_loop (V := List Int × Int × Option Addr × Nat) (J := fun k v => ref08_Join.l738 a1 k v.1 v.2.1 = some r) (sv := fun v => ⟨[], [(0, .v (.slice A2 a1.length k2)), (8, .v (.slice v.2.2.1 v.1.length v.2.2.2)), (9, I v.2.1)], [.a (slA 5 (eI .u8) v.2.2.1 v.2.2.2 v.1)]⟩) FUEL ([], 0, none, 0) hres (fun a w hs => hs.conv [0] (by kernel_rfl) (by kernel_rfl) ⟨[], by kernel_rfl⟩) ?_
            rintro k738 ⟨x725, x727, A726, c726⟩ hres
            rcases k738 with _ | k738
            · rw [ref08_Join.l738] at hres; cases hres
            · rw [ref08_Join.l738] at hres
              refine rn_seq ?_
              refine rn_seq ?_
              refine rn_q [] [0, 8, 9, 75] [(0, .v (.slice A2 a1.length k2)), (8, .v (.slice A726 x725.length c726)), (9, I x727), (75, B (decide (x727 < (a1.length : Int))))] [] (by kernel_rfl) trivial (fin_next ?_)
              refine rn_cond (decide (x727 < (a1.length : Int))) (by kernel_rfl) (fun c739 => ?_) (fun c739 => ?_)
              · rw [if_pos (of_decide_eq_true c739)] at hres
                refine rn_skip (fin_next ?_)
                refine rn_seq ?_
                refine rn_block ?_
                refine rn_seq ?_
                refine bind_elim hres fun y740 hy740 hres => ?_
                refine rn_q [(2, .v (elP A2 (x727.toNat * 3 + 0))), (3, .v (elP A2 (x727.toNat * 3 + 2))), (4, S y740.Body)] [0, 8, 9, 10] [(0, .v (.slice A2 a1.length k2)), (8, .v (.slice A726 x725.length c726)), (9, I x727), (10, I (w64 ((y740.Body.size : Int).tdiv 4)))] [(smIa 23 (.slice A2 a1.length k2) (.int .i64 x727), elP A2 (x727.toNat * 3 + 0)), (smFa 27 (elP A2 (x727.toNat * 3 + 0)) 2, elP A2 (x727.toNat * 3 + 2)), (smLd 9 (elP A2 (x727.toNat * 3 + 2)), .string y740.Body)] (by kernel_rfl) ⟨ob_ia (E := e_api_Part) (U := 27) (i := x727) (sz := 3) (by kernel_rfl) (by kernel_rfl) (by kernel_rfl) hA2.app hy740, ⟨ob_fa (E := e_api_Part) (i := x727) (sz := 3) (o := 0) (d := 2) (by kernel_rfl) (by kernel_rfl) hA2.app hy740, ⟨ob_ld1 (E := e_api_Part) (i := x727) (sz := 3) (o := 2) (d := .string) (by kernel_rfl) (by kernel_rfl) (by kernel_rfl) (by kernel_rfl) hA2.app hy740, trivial⟩⟩⟩ (fin_next ?_)
                refine rn_seq ?_
                refine bind_elim hres fun y741 hy741 hres => ?_
                refine bind_elim hres fun y742 hy742 hres => ?_
                refine bind_elim hres fun y744 hy744 hres => ?_
                refine rn_held (hden [] [] ++ F) (by kernel_rfl) ?_
                refine rh_q [] 3 [0, 1, 2, 3, 4, 5, 6, 7, 8, 9, 10, 11, 12, 13, 14, 15, 16, 17, 18] [(3, .v (elP A2 (x727.toNat * 3 + 0))), (4, .v (elP A2 (x727.toNat * 3 + 0))), (5, I y741.Count), (10, .v (elP A2 (x727.toNat * 3 + 0))), (11, .v (elP A2 (x727.toNat * 3 + 1))), (12, I y742.Type_)] [0, 8, 9, 85, 92, 98, 101, 103] [(0, .v (.slice A2 a1.length k2)), (8, .v (.slice A726 x725.length c726)), (9, I x727), (85, .v (.slice A726 x725.length c726)), (92, U .u8 (IntKind.wrap .u8 (w64 (128 + y741.Count)))), (98, U .u8 (IntKind.wrap .u8 (y742.Type_))), (101, U .u8 (IntKind.wrap .u8 ((w64 ((y740.Body.size : Int).tdiv 4)).fdiv 256))), (103, U .u8 (IntKind.wrap .u8 (w64 ((y740.Body.size : Int).tdiv 4))))] [true, true, true, true, true, true, true, true, true, true, true, true, true, true, true, true, true, true, true, false, false, false] [(smIa 23 (.slice A2 a1.length k2) (.int .i64 x727), elP A2 (x727.toNat * 3 + 0)), (smFa 27 (elP A2 (x727.toNat * 3 + 0)) 0, elP A2 (x727.toNat * 3 + 0)), (smLd 3 (elP A2 (x727.toNat * 3 + 0)), .int .i64 y741.Count), (smIa 23 (.slice A2 a1.length k2) (.int .i64 x727), elP A2 (x727.toNat * 3 + 0)), (smFa 27 (elP A2 (x727.toNat * 3 + 0)) 1, elP A2 (x727.toNat * 3 + 1)), (smLd 3 (elP A2 (x727.toNat * 3 + 1)), .int .i64 y742.Type_)] rfl (by kernel_rfl) rfl [] [slA 5 (eI .u8) A726 c726 x725] (by kernel_rfl) (by kernel_rfl) ⟨ob_ia (E := e_api_Part) (U := 27) (i := x727) (sz := 3) (by kernel_rfl) (by kernel_rfl) (by kernel_rfl) hA2.app hy741, ⟨ob_fa (E := e_api_Part) (i := x727) (sz := 3) (o := 0) (d := 0) (by kernel_rfl) (by kernel_rfl) hA2.app hy741, ⟨ob_ld1 (E := e_api_Part) (i := x727) (sz := 3) (o := 0) (d := (.int .i64)) (by kernel_rfl) (by kernel_rfl) (by kernel_rfl) (by kernel_rfl) hA2.app hy741, ⟨ob_ia (E := e_api_Part) (U := 27) (i := x727) (sz := 3) (by kernel_rfl) (by kernel_rfl) (by kernel_rfl) hA2.app hy742, ⟨ob_fa (E := e_api_Part) (i := x727) (sz := 3) (o := 0) (d := 1) (by kernel_rfl) (by kernel_rfl) hA2.app hy742, ⟨ob_ld1 (E := e_api_Part) (i := x727) (sz := 3) (o := 1) (d := (.int .i64)) (by kernel_rfl) (by kernel_rfl) (by kernel_rfl) (by kernel_rfl) hA2.app hy742, trivial⟩⟩⟩⟩⟩⟩ ?_
                refine rh_1 19 (by kernel_rfl) ?_
                refine op_bslice (E := (eI .u8)) 47 5 4 #[(0, (.tmp 92)), (1, (.tmp 98)), (2, (.tmp 101)), (3, (.tmp 103))] 104 [IntKind.wrap .u8 (w64 (128 + y741.Count)), IntKind.wrap .u8 (y742.Type_), IntKind.wrap .u8 ((w64 ((y740.Body.size : Int).tdiv 4)).fdiv 256), IntKind.wrap .u8 (w64 ((y740.Body.size : Int).tdiv 4))] (by kernel_rfl) (by kernel_rfl) (by kernel_rfl) rfl (by decide) (by kernel_rfl) (fun b743 => fin_held [] [true, true, true, true, true, true, true, true, true, true, true, true, true, true, true, true, true, true, true, true, false, false] (by kernel_rfl) rfl [] [slA 5 (eI .u8) (some ⟨b743, 0, none⟩) 4 [IntKind.wrap .u8 (w64 (128 + y741.Count)), IntKind.wrap .u8 (y742.Type_), IntKind.wrap .u8 ((w64 ((y740.Body.size : Int).tdiv 4)).fdiv 256), IntKind.wrap .u8 (w64 ((y740.Body.size : Int).tdiv 4))], slA 5 (eI .u8) A726 c726 x725] (by kernel_rfl) ?_)
                refine rh_1 20 (by kernel_rfl) ?_
                refine op_append (E := (eI .u8)) (lim := 140737488355328) 47 47 5 (.tmp 85) (.tmp 104) 105 A726 (.slice (some ⟨b743, 0, none⟩) 4 4) c726 x725 [IntKind.wrap .u8 (w64 (128 + y741.Count)), IntKind.wrap .u8 (y742.Type_), IntKind.wrap .u8 ((w64 ((y740.Body.size : Int).tdiv 4)).fdiv 256), IntKind.wrap .u8 (w64 ((y740.Body.size : Int).tdiv 4))] ((Try.prog.info? 5).get rfl) (((Try.prog.info? 5).get rfl).zero.get rfl) 1 [.a (slA 5 (eI .u8) (some ⟨b743, 0, none⟩) 4 [IntKind.wrap .u8 (w64 (128 + y741.Count)), IntKind.wrap .u8 (y742.Type_), IntKind.wrap .u8 ((w64 ((y740.Body.size : Int).tdiv 4)).fdiv 256), IntKind.wrap .u8 (w64 ((y740.Body.size : Int).tdiv 4))])] (by kernel_rfl) (by kernel_rfl) (by kernel_rfl) (by kernel_rfl) (by kernel_rfl) (by kernel_rfl) (by kernel_rfl) (by kernel_rfl) (by kernel_rfl) (Nat.le_of_ble_eq_true (by kernel_rfl)) (by decide) hy744 (by kernel_rfl) (ap_sl (e := 5) (E := (eI .u8)) (B := (some ⟨b743, 0, none⟩)) (c := 4) (M := [IntKind.wrap .u8 (w64 (128 + y741.Count)), IntKind.wrap .u8 (y742.Type_), IntKind.wrap .u8 ((w64 ((y740.Body.size : Int).tdiv 4)).fdiv 256), IntKind.wrap .u8 (w64 ((y740.Body.size : Int).tdiv 4))]) (by kernel_rfl) (by kernel_rfl) (row_at (U := 5) (E := (eI .u8)) (A := (some ⟨b743, 0, none⟩)) (c := 4) (L := [IntKind.wrap .u8 (w64 (128 + y741.Count)), IntKind.wrap .u8 (y742.Type_), IntKind.wrap .u8 ((w64 ((y740.Body.size : Int).tdiv 4)).fdiv 256), IntKind.wrap .u8 (w64 ((y740.Body.size : Int).tdiv 4))]) 0 (by kernel_rfl))) (fun A745 k745 => fin_held [] [true, true, true, true, true, true, true, true, true, true, true, true, true, true, true, true, true, true, true, true, true, false] (by kernel_rfl) rfl [] [slA 5 (eI .u8) A745 k745 y744, slA 5 (eI .u8) (some ⟨b743, 0, none⟩) 4 [IntKind.wrap .u8 (w64 (128 + y741.Count)), IntKind.wrap .u8 (y742.Type_), IntKind.wrap .u8 ((w64 ((y740.Body.size : Int).tdiv 4)).fdiv 256), IntKind.wrap .u8 (w64 ((y740.Body.size : Int).tdiv 4))]] (by kernel_rfl) ?_)
                refine rh_q [] 0 [21] [] [0, 8, 9] [(0, .v (.slice A2 a1.length k2)), (8, .v (.slice A745 y744.length k745)), (9, I x727)] [true, true, true, true, true, true, true, true, true, true, true, true, true, true, true, true, true, true, true, true, true, true] [] rfl (by kernel_rfl) rfl [] [slA 5 (eI .u8) A745 k745 y744, slA 5 (eI .u8) (some ⟨b743, 0, none⟩) 4 [IntKind.wrap .u8 (w64 (128 + y741.Count)), IntKind.wrap .u8 (y742.Type_), IntKind.wrap .u8 ((w64 ((y740.Body.size : Int).tdiv 4)).fdiv 256), IntKind.wrap .u8 (w64 ((y740.Body.size : Int).tdiv 4))]] (by kernel_rfl) (by kernel_rfl) trivial ?_
                refine rh_end (by kernel_rfl) (fin_next ?_)
                refine bind_elim hres fun y746 hy746 hres => ?_
                refine rn_text ?_
                refine ro_q 6 [(3, .v (elP A2 (x727.toNat * 3 + 0))), (4, .v (elP A2 (x727.toNat * 3 + 2))), (5, S y746.Body)] [0, 9, 106, 111] [(0, .v (.slice A2 a1.length k2)), (9, I x727), (106, .v (.slice A745 y744.length k745)), (111, S y746.Body)] [(smIa 23 (.slice A2 a1.length k2) (.int .i64 x727), elP A2 (x727.toNat * 3 + 0)), (smFa 27 (elP A2 (x727.toNat * 3 + 0)) 2, elP A2 (x727.toNat * 3 + 2)), (smLd 9 (elP A2 (x727.toNat * 3 + 2)), .string y746.Body)] (by kernel_rfl) ⟨ob_ia (E := e_api_Part) (U := 27) (i := x727) (sz := 3) (by kernel_rfl) (by kernel_rfl) (by kernel_rfl) hA2.app hy746, ⟨ob_fa (E := e_api_Part) (i := x727) (sz := 3) (o := 0) (d := 2) (by kernel_rfl) (by kernel_rfl) hA2.app hy746, ⟨ob_ld1 (E := e_api_Part) (i := x727) (sz := 3) (o := 2) (d := .string) (by kernel_rfl) (by kernel_rfl) (by kernel_rfl) (by kernel_rfl) hA2.app hy746, trivial⟩⟩⟩ ?_
                refine bind_elim hres fun y747 hy747 hres => ?_
                refine ro_op (by kernel_rfl) (op_append (E := (eI .u8)) (lim := 140737488355328) 47 9 5 (.tmp 106) (.tmp 111) 112 A745 (.string y746.Body) k745 y744 (sB y746.Body) ((Try.prog.info? 5).get rfl) (((Try.prog.info? 5).get rfl).zero.get rfl) 0 [.a (slA 5 (eI .u8) (some ⟨b743, 0, none⟩) 4 [IntKind.wrap .u8 (w64 (128 + y741.Count)), IntKind.wrap .u8 (y742.Type_), IntKind.wrap .u8 ((w64 ((y740.Body.size : Int).tdiv 4)).fdiv 256), IntKind.wrap .u8 (w64 ((y740.Body.size : Int).tdiv 4))])] (by kernel_rfl) (by kernel_rfl) (by kernel_rfl) (by kernel_rfl) (by kernel_rfl) (by kernel_rfl) (by kernel_rfl) (by kernel_rfl) (by kernel_rfl) (Nat.le_of_ble_eq_true (by kernel_rfl)) (by decide) hy747 (by kernel_rfl) (ap_str (by kernel_rfl) (by kernel_rfl)) (fun A748 k748 => ro_fin ?_))
                refine ro_q 1 [] [0, 8, 9] [(0, .v (.slice A2 a1.length k2)), (8, .v (.slice A748 y747.length k748)), (9, I x727)] [] (by kernel_rfl) trivial ?_
                refine ro_end (by kernel_rfl) (fin_block (fin_next ?_))
                refine rn_q [] [0, 8, 9] [(0, .v (.slice A2 a1.length k2)), (8, .v (.slice A748 y747.length k748)), (9, I (w64 (x727 + 1)))] [] (by kernel_rfl) trivial (fin_then ?_)
                refine fin_loop (y747, w64 (x727 + 1), A748, k748) hres [0] [slA 5 (eI .u8) (some ⟨b743, 0, none⟩) 4 [IntKind.wrap .u8 (w64 (128 + y741.Count)), IntKind.wrap .u8 (y742.Type_), IntKind.wrap .u8 ((w64 ((y740.Body.size : Int).tdiv 4)).fdiv 256), IntKind.wrap .u8 (w64 ((y740.Body.size : Int).tdiv 4))]] (by kernel_rfl) (by kernel_rfl) (by kernel_rfl)
              · rw [if_neg (of_decide_eq_false c739)] at hres
                refine rn_exit (fin_then_exit (fin_then_exit (fin_block_exit (fin_next ?_))))
                refine rn_seq ?_
                refine rn_q [(1, S (bS x725))] [2, 3] [(2, S (bS x725)), (3, I 0)] [(smCv 47 9 (.slice A726 x725.length c726), .string (bS x725))] (by kernel_rfl) ⟨ob_bS (U := 5) (by kernel_rfl) (by kernel_rfl) (by kernel_rfl) (row_at (U := 5) (E := (eI .u8)) (A := A726) (c := c726) (L := x725) 0 (by kernel_rfl)), trivial⟩ (fin_next ?_)
                refine rn_ret ?_
                refine fin_ret [.string (bS x725), .int .i64 0] (by kernel_rfl) fun w' hw' => ?_
                have hq := Option.some.inj hres
                subst hq
                exact ⟨rfl, hw'.drop⟩
/- 23 flywheel/rtcp.want -/
def rtcp_want (a1 : Bool) (a2 : Int) : Option (Except Value Unit) :=
  (if a1 = true then some (.ok ()) else some (.error (.iface 71 (.agg #[.int .i64 a2]))))
theorem rtcp_want_ok {a1 : Bool} {a2 : Int} {r : Unit} (hres : rtcp_want a1 a2 = some (.ok r)) {w0 w : World} {F : List Asn} (hw : SH w0 w (F)) :
    Calls Try.prog 23 #[.bool a1, .int .i64 a2] w fun e w' => e = .returned (.tuple #[]) ∧ SH w0 w' (F) := by
  refine fw_enter (n := 9) (bs := []) (env := [(0, B a1), (1, I a2)]) (H := []) (F := F) Try.func23 rfl (by kernel_rfl) (by kernel_rfl) (by kernel_rfl) (hw.eq (by kernel_rfl)) ?_
  unfold rtcp_want at hres
  refine rn_seq ?_
  refine rn_q [] [1, 5] [(1, I a2), (5, B (!a1))] [] (by kernel_rfl) trivial (fin_next ?_)
  refine rn_cond (!a1) (by kernel_rfl) (fun c3 => ?_) (fun c3 => ?_)
  · rw [if_neg (nt_of_f (nb_t c3))] at hres
    cases hres
  · rw [if_pos ((nb_f c3))] at hres
    refine rn_skip ?_
    refine fin_end [] (by kernel_rfl) fun w' hw' => ?_
    have hq := Except.ok.inj (Option.some.inj hres)
    subst hq
    exact ⟨rfl, hw'.drop⟩
theorem rtcp_want_err {a1 : Bool} {a2 : Int} {r : Value} (hres : rtcp_want a1 a2 = some (.error r)) {w0 w : World} {F : List Asn} (hw : SH w0 w (F)) :
    Calls Try.prog 23 #[.bool a1, .int .i64 a2] w fun e w' => e = .panicked [{ v := r, recovered := false }] ∧ SH w0 w' F := by
  refine fw_enter (n := 9) (bs := []) (env := [(0, B a1), (1, I a2)]) (H := []) (F := F) Try.func23 rfl (by kernel_rfl) (by kernel_rfl) (by kernel_rfl) (hw.eq (by kernel_rfl)) ?_
  unfold rtcp_want at hres
  refine rn_seq ?_
  refine rn_q [] [1, 5] [(1, I a2), (5, B (!a1))] [] (by kernel_rfl) trivial (fin_next ?_)
  refine rn_cond (!a1) (by kernel_rfl) (fun c3 => ?_) (fun c3 => ?_)
  · rw [if_neg (nt_of_f (nb_t c3))] at hres
    refine rn_text ?_
    refine ro_q 3 [] [8] [(8, .v (.iface 71 (.agg #[.int .i64 a2])))] [] (by kernel_rfl) trivial ?_
    have hq := Except.error.inj (Option.some.inj hres)
    subst hq
    refine ro_op (by kernel_rfl) (op_panic (d := none) (.tmp 8) 71 (.agg #[.int .i64 a2]) (by kernel_rfl) (by kernel_rfl) ?_)
    exact fin_panic fun w hw => ⟨rfl, hw.drop⟩
  · rw [if_pos ((nb_f c3))] at hres
    refine rn_skip ?_
    cases hres
structure S_bits_Reader where
  s : ByteArray
  at_ : Int
  bad : Bool
def R_bits_Reader (b : Nat) (x : S_bits_Reader) : Asn := cellsA b [.string x.s, .int .i64 x.at_, .bool x.bad] 113
/- 33 flywheel/bits.Read -/
def bits_Read (a1 : ByteArray) : Option S_bits_Reader :=
  some (⟨a1, 0, false⟩ : S_bits_Reader)
theorem bits_Read_ok {a1 : ByteArray} {r : S_bits_Reader} (hres : bits_Read a1 = some r) {w0 w : World} {F : List Asn} (hw : SH w0 w (F)) :
    Calls Try.prog 33 #[.string a1] w fun e w' => ∃ b3, e = .returned (.pointer (some ⟨b3, 0, none⟩)) ∧ SH w0 w' ([R_bits_Reader b3 r] ++ F) := by
  refine fw_enter (n := 6) (bs := []) (env := [(0, S a1)]) (H := []) (F := F) Try.func33 rfl (by kernel_rfl) (by kernel_rfl) (by kernel_rfl) (hw.eq (by kernel_rfl)) ?_
  unfold bits_Read at hres
  refine rn_seq ?_
  refine rn_q [] [0] [(0, S a1)] [] (by kernel_rfl) trivial (fin_next ?_)
  refine rn_seq ?_
  refine rn_text ?_
  refine ro_q 2 [] [4] [(4, .v (.agg #[.string a1, .int .i64 0, .bool false]))] [] (by kernel_rfl) trivial ?_
  refine ro_op (by kernel_rfl) (op_box 113 (.tmp 4) (.v (.agg #[.string a1, .int .i64 0, .bool false])) 5 [S a1, I 0, B false] (fun b2 => [b2]) (fun b2 => [.c 0 [S a1, I 0, B false] 113]) (by kernel_rfl) (by kernel_rfl) (by kernel_rfl) (by kernel_rfl) 0 (fun _ => by kernel_rfl) (fun _ => mt_bs (by kernel_rfl)) (fun _ => by kernel_rfl) (fun b2 => ro_fin ?_))
  refine ro_q 1 [] [2] [(2, .p 0 0)] [] (by kernel_rfl) trivial ?_
  refine ro_end (by kernel_rfl) (fin_next ?_)
  refine rn_ret ?_
  refine fin_fold [.a (R_bits_Reader b2 (⟨a1, 0, false⟩ : S_bits_Reader))] (fun w hw => hw.sel [0] (by kernel_rfl)) ?_
  refine fin_ret [.pointer (some ⟨b2, 0, none⟩)] (by kernel_rfl) fun w' hw' => ?_
  have hq := Option.some.inj hres
  subst hq
  exact ⟨b2, rfl, hw'.take (L' := [R_bits_Reader b2 (⟨a1, 0, false⟩ : S_bits_Reader)]) [0] [] (by kernel_rfl)⟩
/- 34 (*flywheel/bits.Reader).Get -/
def bits_Reader_Get.l1848 (a1 : S_bits_Reader) (a2 : Int) : Nat → Int → S_bits_Reader → Option (Int × S_bits_Reader)
  | 0, _, _ => none
  | k + 1, x1842, x1843 =>
    (if x1843.at_ < (w64 (a1.at_ + a2)) then (bidx x1843.s (w64 (x1843.at_.tdiv 8))).bind fun y1850 =>
  (if (w64 (7 - (x1843.at_.tmod 8))) < 0 then none else
  bits_Reader_Get.l1848 a1 a2 k (bOr .u32 (IntKind.wrap .u32 (x1842 * 2)) (IntKind.wrap .u32 (bAnd .u8 (shR .u8 y1850 (w64 (7 - (x1843.at_.tmod 8)))) 1))) (⟨x1843.s, w64 (x1843.at_ + 1), x1843.bad⟩ : S_bits_Reader)) else some (x1842, x1843))
def bits_Reader_Get.j1853 (a1 : S_bits_Reader) (a2 : Int) : Option (Int × S_bits_Reader) :=
  bits_Reader_Get.l1848 a1 a2 FUEL 0 a1
def bits_Reader_Get.j1536 (a1 : S_bits_Reader) (a2 : Int) (j1534 : Bool) : Option (Int × S_bits_Reader) :=
  (if j1534 = true then some (0, (⟨a1.s, a1.at_, true⟩ : S_bits_Reader)) else bits_Reader_Get.j1853 a1 a2)
def bits_Reader_Get.j1854 (a1 : S_bits_Reader) (a2 : Int) : Option (Int × S_bits_Reader) :=
  (if a2 < 0 then bits_Reader_Get.j1536 a1 a2 true else (if 32 < a2 then bits_Reader_Get.j1536 a1 a2 true else bits_Reader_Get.j1536 a1 a2 (decide ((w64 ((w64 (8 * (a1.s.size : Int))) - a1.at_)) < a2))))
def bits_Reader_Get (a1 : S_bits_Reader) (a2 : Int) : Option (Int × S_bits_Reader) :=
  (if a1.bad = true then some (0, a1) else bits_Reader_Get.j1854 a1 a2)
theorem bits_Reader_Get_ok {a1 : S_bits_Reader} {a2 : Int} {b0 : Nat} {r : Int × S_bits_Reader} (hres : bits_Reader_Get a1 a2 = some r) {w0 w : World} {F : List Asn} (hw : SH w0 w ([R_bits_Reader b0 a1] ++ F)) :
    Calls Try.prog 34 #[.pointer (some ⟨b0, 0, none⟩), .int .i64 a2] w fun e w' => e = .returned (.int .u32 r.1) ∧ SH w0 w' ([R_bits_Reader b0 r.2] ++ F) := by
  refine fw_enter (n := 81) (bs := [b0]) (env := [(0, .p 0 0), (1, I a2)]) (H := [.a (R_bits_Reader b0 a1)]) (F := F) Try.func34 rfl (by kernel_rfl) (by kernel_rfl) (by kernel_rfl) (hw.eq (by kernel_rfl)) ?_
  unfold bits_Reader_Get at hres
  refine rn_seq ?_
  refine rn_q [] [0, 1] [(0, .p 0 0), (1, I a2)] [] (by kernel_rfl) trivial (fin_next ?_)
  refine rn_scope ?_
  refine rn_join (V := Unit) (J := fun v => bits_Reader_Get.j1854 a1 a2 = some r) (sv := fun v => ⟨[b0], [(0, .p 0 0), (1, I a2)], [.a (R_bits_Reader b0 a1)]⟩) ?_ ?_
  · refine rn_seq ?_
    refine rn_ex (V := Unit) (sv := fun v => ⟨[b0], [(0, .p 0 0), (1, I a2)], [.c 0 [S a1.s, I a1.at_, B a1.bad] 113]⟩) (fun w hw => ?_) (fun _ => by kernel_rfl) (fun _ => by kernel_rfl) ?_
    · exact ⟨(), hw.sel [0] (by kernel_rfl)⟩
    rintro ⟨⟩
    refine rn_q [] [0, 1, 14] [(0, .p 0 0), (1, I a2), (14, B a1.bad)] [] (by kernel_rfl) trivial (fin_next ?_)
    refine rn_cond (a1.bad) (by kernel_rfl) (fun c929 => ?_) (fun c929 => ?_)
    · rw [if_pos (c929)] at hres
      refine rn_seq ?_
      refine rn_q [] [4] [(4, U .u32 0)] [] (by kernel_rfl) trivial (fin_next ?_)
      refine rn_ret (fin_then_ret (fin_scope_ret ?_))
      refine fin_fold [.a (R_bits_Reader b0 a1)] (fun w hw => hw.sel [0] (by kernel_rfl)) ?_
      refine fin_ret [.int .u32 0] (by kernel_rfl) fun w' hw' => ?_
      have hq := Option.some.inj hres
      subst hq
      exact ⟨rfl, hw'.take (L' := [R_bits_Reader b0 a1]) [0] [] (by kernel_rfl)⟩
    · rw [if_neg (nt_of_f c929)] at hres
      refine rn_skip (fin_then ?_)
      refine fin_fold [.a (R_bits_Reader b0 a1)] (fun w hw => hw.sel [0] (by kernel_rfl)) ?_
      refine fin_join () hres [0] [] (by kernel_rfl) (by kernel_rfl) (by kernel_rfl)
  · rintro ⟨⟩ hres
    unfold bits_Reader_Get.j1854 at hres
    refine rn_join (V := Unit) (J := fun v => bits_Reader_Get.j1853 a1 a2 = some r) (sv := fun v => ⟨[b0], [(0, .p 0 0), (1, I a2)], [.a (R_bits_Reader b0 a1)]⟩) ?_ ?_
    · refine rn_join (V := Bool) (J := fun v => bits_Reader_Get.j1536 a1 a2 v = some r) (sv := fun v => ⟨[b0], [(0, .p 0 0), (1, I a2), (35, B v)], [.a (R_bits_Reader b0 a1)]⟩) ?_ ?_
      · refine rn_ex (V := Unit) (sv := fun v => ⟨[b0], [(0, .p 0 0), (1, I a2)], [.c 0 [S a1.s, I a1.at_, B a1.bad] 113]⟩) (fun w hw => ?_) (fun _ => by kernel_rfl) (fun _ => by kernel_rfl) ?_
        · exact ⟨(), hw.sel [0] (by kernel_rfl)⟩
        rintro ⟨⟩
        refine rn_case (decide (a2 < 0)) (fun c1232 => ?_) (fun c1232 => ?_)
        · rw [if_pos (of_decide_eq_true c1232)] at hres
          refine rn_held (hden [b0] [.c 0 [S a1.s, I a1.at_, B a1.bad] 113] ++ F) (by kernel_rfl) ?_
          refine rh_q [.c 0 [S a1.s, I a1.at_, B a1.bad] 113] 18 [0, 1, 2] [] [0, 1, 17] [(0, .p 0 0), (1, I a2), (17, B (decide (a2 < 0)))] [true, true, true, false, false, false, false, false, false, false, false, false, false, false, false, false, false, false, false, false, false] [] rfl (by kernel_rfl) rfl [0] [] (by kernel_rfl) (by kernel_rfl) trivial ?_
          refine rh_is 17 (decide (a2 < 0)) c1232 (by kernel_rfl) ?_
          refine rh_q [.c 0 [S a1.s, I a1.at_, B a1.bad] 113] 0 [3, 4, 5, 6, 7, 8, 9, 10, 11, 12, 13, 14, 15, 16, 17, 18, 19, 20] [] [0, 1, 35] [(0, .p 0 0), (1, I a2), (35, B true)] [true, true, true, true, true, true, true, true, true, true, true, true, true, true, true, true, true, true, true, true, true] [] rfl (by kernel_rfl) rfl [0] [] (by kernel_rfl) (by kernel_rfl) trivial ?_
          refine rh_end (by kernel_rfl) (fin_then ?_)
          refine fin_fold [.a (R_bits_Reader b0 a1)] (fun w hw => hw.sel [0] (by kernel_rfl)) ?_
          refine fin_join true hres [0] [] (by kernel_rfl) (by kernel_rfl) (by kernel_rfl)
        · rw [if_neg (of_decide_eq_false c1232)] at hres
          refine rn_case (decide (32 < a2)) (fun c1233 => ?_) (fun c1233 => ?_)
          · rw [if_pos (of_decide_eq_true c1233)] at hres
            refine rn_held (hden [b0] [.c 0 [S a1.s, I a1.at_, B a1.bad] 113] ++ F) (by kernel_rfl) ?_
            refine rh_q [.c 0 [S a1.s, I a1.at_, B a1.bad] 113] 18 [0, 1, 2] [] [0, 1, 17] [(0, .p 0 0), (1, I a2), (17, B (decide (a2 < 0)))] [true, true, true, false, false, false, false, false, false, false, false, false, false, false, false, false, false, false, false, false, false] [] rfl (by kernel_rfl) rfl [0] [] (by kernel_rfl) (by kernel_rfl) trivial ?_
            refine rh_is 17 (decide (a2 < 0)) c1232 (by kernel_rfl) ?_
            refine rh_q [.c 0 [S a1.s, I a1.at_, B a1.bad] 113] 14 [3, 4, 5, 6] [] [0, 1, 21] [(0, .p 0 0), (1, I a2), (21, B (decide (32 < a2)))] [true, true, true, true, true, true, true, false, false, false, false, false, false, false, false, false, false, false, false, false, false] [] rfl (by kernel_rfl) rfl [0] [] (by kernel_rfl) (by kernel_rfl) trivial ?_
            refine rh_is 21 (decide (32 < a2)) c1233 (by kernel_rfl) ?_
            refine rh_q [.c 0 [S a1.s, I a1.at_, B a1.bad] 113] 0 [7, 8, 9, 10, 11, 12, 13, 14, 15, 16, 17, 18, 19, 20] [] [0, 1, 35] [(0, .p 0 0), (1, I a2), (35, B true)] [true, true, true, true, true, true, true, true, true, true, true, true, true, true, true, true, true, true, true, true, true] [] rfl (by kernel_rfl) rfl [0] [] (by kernel_rfl) (by kernel_rfl) trivial ?_
            refine rh_end (by kernel_rfl) (fin_then ?_)
            refine fin_fold [.a (R_bits_Reader b0 a1)] (fun w hw => hw.sel [0] (by kernel_rfl)) ?_
            refine fin_join true hres [0] [] (by kernel_rfl) (by kernel_rfl) (by kernel_rfl)
          · rw [if_neg (of_decide_eq_false c1233)] at hres
            refine rn_held (hden [b0] [.c 0 [S a1.s, I a1.at_, B a1.bad] 113] ++ F) (by kernel_rfl) ?_
            refine rh_q [.c 0 [S a1.s, I a1.at_, B a1.bad] 113] 18 [0, 1, 2] [] [0, 1, 17] [(0, .p 0 0), (1, I a2), (17, B (decide (a2 < 0)))] [true, true, true, false, false, false, false, false, false, false, false, false, false, false, false, false, false, false, false, false, false] [] rfl (by kernel_rfl) rfl [0] [] (by kernel_rfl) (by kernel_rfl) trivial ?_
            refine rh_is 17 (decide (a2 < 0)) c1232 (by kernel_rfl) ?_
            refine rh_q [.c 0 [S a1.s, I a1.at_, B a1.bad] 113] 14 [3, 4, 5, 6] [] [0, 1, 21] [(0, .p 0 0), (1, I a2), (21, B (decide (32 < a2)))] [true, true, true, true, true, true, true, false, false, false, false, false, false, false, false, false, false, false, false, false, false] [] rfl (by kernel_rfl) rfl [0] [] (by kernel_rfl) (by kernel_rfl) trivial ?_
            refine rh_is 21 (decide (32 < a2)) c1233 (by kernel_rfl) ?_
            refine rh_q [.c 0 [S a1.s, I a1.at_, B a1.bad] 113] 0 [7, 8, 9, 10, 11, 12, 13, 14, 15, 16, 17, 18, 19, 20] [] [0, 1, 35] [(0, .p 0 0), (1, I a2), (35, B (decide ((w64 ((w64 (8 * (a1.s.size : Int))) - a1.at_)) < a2)))] [true, true, true, true, true, true, true, true, true, true, true, true, true, true, true, true, true, true, true, true, true] [] rfl (by kernel_rfl) rfl [0] [] (by kernel_rfl) (by kernel_rfl) trivial ?_
            refine rh_end (by kernel_rfl) (fin_then ?_)
            refine fin_fold [.a (R_bits_Reader b0 a1)] (fun w hw => hw.sel [0] (by kernel_rfl)) ?_
            refine fin_join (decide ((w64 ((w64 (8 * (a1.s.size : Int))) - a1.at_)) < a2)) hres [0] [] (by kernel_rfl) (by kernel_rfl) (by kernel_rfl)
      · rintro j1534 hres
        unfold bits_Reader_Get.j1536 at hres
        refine rn_cond (j1534) (by kernel_rfl) (fun c1535 => ?_) (fun c1535 => ?_)
        · rw [if_pos (c1535)] at hres
          refine rn_seq ?_
          refine rn_ex (V := Unit) (sv := fun v => ⟨[b0], [(0, .p 0 0), (1, I a2), (35, B j1534)], [.c 0 [S a1.s, I a1.at_, B a1.bad] 113]⟩) (fun w hw => ?_) (fun _ => by kernel_rfl) (fun _ => by kernel_rfl) ?_
          · exact ⟨(), hw.sel [0] (by kernel_rfl)⟩
          rintro ⟨⟩
          refine rn_text ?_
          refine ro_q 3 [] [38] [(38, .p 0 2)] [] (by kernel_rfl) trivial ?_
          refine ro_op (by kernel_rfl) (op_store 4 (.tmp 38) (.const (.bool true)) 0 2 (B true) [.c 0 [S a1.s, I a1.at_, B true] 113] (by kernel_rfl) (by kernel_rfl) (by kernel_rfl) (by kernel_rfl) (ro_fin ?_))
          refine ro_end (by kernel_rfl) (fin_next ?_)
          refine rn_seq ?_
          refine rn_q [] [4] [(4, U .u32 0)] [] (by kernel_rfl) trivial (fin_next ?_)
          refine rn_ret (fin_then_ret (fin_scope_ret ?_))
          refine fin_fold [.a (R_bits_Reader b0 (⟨a1.s, a1.at_, true⟩ : S_bits_Reader))] (fun w hw => hw.sel [0] (by kernel_rfl)) ?_
          refine fin_ret [.int .u32 0] (by kernel_rfl) fun w' hw' => ?_
          have hq := Option.some.inj hres
          subst hq
          exact ⟨rfl, hw'.take (L' := [R_bits_Reader b0 (⟨a1.s, a1.at_, true⟩ : S_bits_Reader)]) [0] [] (by kernel_rfl)⟩
        · rw [if_neg (nt_of_f c1535)] at hres
          refine rn_skip (fin_then ?_)
          refine fin_join () hres [0] [] (by kernel_rfl) (by kernel_rfl) (by kernel_rfl)
    · rintro ⟨⟩ hres
      unfold bits_Reader_Get.j1853 at hres
      refine rn_seq ?_
      refine rn_q [] [0, 1, 5] [(0, .p 0 0), (1, I a2), (5, U .u32 0)] [] (by kernel_rfl) trivial (fin_next ?_)
      refine rn_seq ?_
      refine rn_ex (V := Unit) (sv := fun v => ⟨[b0], [(0, .p 0 0), (1, I a2), (5, U .u32 0)], [.c 0 [S a1.s, I a1.at_, B a1.bad] 113]⟩) (fun w hw => ?_) (fun _ => by kernel_rfl) (fun _ => by kernel_rfl) ?_
      · exact ⟨(), hw.sel [0] (by kernel_rfl)⟩
      rintro ⟨⟩
      refine rn_q [] [0, 5, 6] [(0, .p 0 0), (5, U .u32 0), (6, I (w64 (a1.at_ + a2)))] [] (by kernel_rfl) trivial (fin_next ?_)
      refine rn_fold [.a (R_bits_Reader b0 a1)] (fun w hw => hw.sel [0] (by kernel_rfl)) ?_
      refine rn_label (by kernel_rfl) (V := Int × S_bits_Reader) (J := fun k v => bits_Reader_Get.l1848 a1 a2 k v.1 v.2 = some r) (sv := fun v => ⟨[b0], [(0, .p 0 0), (5, U .u32 v.1), (6, I (w64 (a1.at_ + a2)))], [.a (R_bits_Reader b0 v.2)]⟩) FUEL (0, a1) hres (fun a w hs => hs.conv [0] (by kernel_rfl) (by kernel_rfl) ⟨[], by kernel_rfl⟩) ?_
      rintro k1848 ⟨x1842, x1843⟩ hres
      rcases k1848 with _ | k1848
      · rw [bits_Reader_Get.l1848] at hres; cases hres
      · rw [bits_Reader_Get.l1848] at hres
        refine rn_seq ?_
        refine rn_seq ?_
        refine rn_ex (V := Unit) (sv := fun v => ⟨[b0], [(0, .p 0 0), (5, U .u32 x1842), (6, I (w64 (a1.at_ + a2)))], [.c 0 [S x1843.s, I x1843.at_, B x1843.bad] 113]⟩) (fun w hw => ?_) (fun _ => by kernel_rfl) (fun _ => by kernel_rfl) ?_
        · exact ⟨(), hw.sel [0] (by kernel_rfl)⟩
        rintro ⟨⟩
        refine rn_q [] [0, 5, 6, 50] [(0, .p 0 0), (5, U .u32 x1842), (6, I (w64 (a1.at_ + a2))), (50, B (decide (x1843.at_ < (w64 (a1.at_ + a2)))))] [] (by kernel_rfl) trivial (fin_next ?_)
        refine rn_cond (decide (x1843.at_ < (w64 (a1.at_ + a2)))) (by kernel_rfl) (fun c1849 => ?_) (fun c1849 => ?_)
        · rw [if_pos (of_decide_eq_true c1849)] at hres
          refine rn_seq ?_
          refine bind_elim hres fun y1850 hy1851 hres => ?_
          have hy1852 : ¬ (w64 (7 - (x1843.at_.tmod 8))) < 0 := by intro hz; rw [if_pos hz] at hres; cases hres
          rw [if_neg hy1852] at hres
          refine rn_held (hden [b0] [.c 0 [S x1843.s, I x1843.at_, B x1843.bad] 113] ++ F) (by kernel_rfl) ?_
          refine rh_q [.c 0 [S x1843.s, I x1843.at_, B x1843.bad] 113] 0 [0, 1, 2, 3, 4, 5, 6, 7, 8, 9, 10, 11, 12, 13, 14, 15, 16, 17, 18, 19, 20, 21, 22] [(11, U .u8 y1850), (18, U .u8 (shR .u8 y1850 (w64 (7 - (x1843.at_.tmod 8)))))] [0, 5, 6] [(0, .p 0 0), (5, U .u32 (bOr .u32 (IntKind.wrap .u32 (x1842 * 2)) (IntKind.wrap .u32 (bAnd .u8 (shR .u8 y1850 (w64 (7 - (x1843.at_.tmod 8)))) 1)))), (6, I (w64 (a1.at_ + a2)))] [true, true, true, true, true, true, true, true, true, true, true, true, true, true, true, true, true, true, true, true, true, true, true] [(smIx 9 (.string x1843.s) (.int .i64 (w64 (x1843.at_.tdiv 8))), .int .u8 y1850), (smShr .u8 y1850 .i64 (w64 (7 - (x1843.at_.tmod 8))), .int .u8 (shR .u8 y1850 (w64 (7 - (x1843.at_.tmod 8)))))] rfl (by kernel_rfl) rfl [0] [] (by kernel_rfl) (by kernel_rfl) ⟨ob_bidx (by kernel_rfl) hy1851, ⟨ob_shr hy1852, trivial⟩⟩ ?_
          refine rh_end (by kernel_rfl) (fin_next ?_)
          refine rn_seq ?_
          refine rn_text ?_
          refine ro_q 7 [] [0, 5, 6, 77, 79] [(0, .p 0 0), (5, U .u32 (bOr .u32 (IntKind.wrap .u32 (x1842 * 2)) (IntKind.wrap .u32 (bAnd .u8 (shR .u8 y1850 (w64 (7 - (x1843.at_.tmod 8)))) 1)))), (6, I (w64 (a1.at_ + a2))), (77, I (w64 (x1843.at_ + 1))), (79, .p 0 1)] [] (by kernel_rfl) trivial ?_
          refine ro_op (by kernel_rfl) (op_store 3 (.tmp 79) (.tmp 77) 0 1 (I (w64 (x1843.at_ + 1))) [.c 0 [S x1843.s, I (w64 (x1843.at_ + 1)), B x1843.bad] 113] (by kernel_rfl) (by kernel_rfl) (by kernel_rfl) (by kernel_rfl) (ro_fin ?_))
          refine ro_end (by kernel_rfl) (fin_next ?_)
          refine rn_goto (fin_then_goto (fin_goto ?_))
          refine fin_fold [.a (R_bits_Reader b0 (⟨x1843.s, w64 (x1843.at_ + 1), x1843.bad⟩ : S_bits_Reader))] (fun w hw => hw.sel [0] (by kernel_rfl)) ?_
          refine fin_loop (bOr .u32 (IntKind.wrap .u32 (x1842 * 2)) (IntKind.wrap .u32 (bAnd .u8 (shR .u8 y1850 (w64 (7 - (x1843.at_.tmod 8)))) 1)), (⟨x1843.s, w64 (x1843.at_ + 1), x1843.bad⟩ : S_bits_Reader)) hres [0] [] (by kernel_rfl) (by kernel_rfl) (by kernel_rfl)
        · rw [if_neg (of_decide_eq_false c1849)] at hres
          refine rn_skip (fin_next ?_)
          refine rn_seq ?_
          refine rn_q [] [4] [(4, U .u32 x1842)] [] (by kernel_rfl) trivial (fin_next ?_)
          refine rn_ret (fin_scope_ret ?_)
          refine fin_fold [.a (R_bits_Reader b0 x1843)] (fun w hw => hw.sel [0] (by kernel_rfl)) ?_
          refine fin_ret [.int .u32 x1842] (by kernel_rfl) fun w' hw' => ?_
          have hq := Option.some.inj hres
          subst hq
          exact ⟨rfl, hw'.take (L' := [R_bits_Reader b0 x1843]) [0] [] (by kernel_rfl)⟩
/- 35 (*flywheel/bits.Reader).Bad -/
def bits_Reader_Bad (a1 : S_bits_Reader) : Option Bool :=
  some a1.bad
theorem bits_Reader_Bad_ok {a1 : S_bits_Reader} {b0 : Nat} {r : Bool} (hres : bits_Reader_Bad a1 = some r) {w0 w : World} {F : List Asn} (hw : SH w0 w ([R_bits_Reader b0 a1] ++ F)) :
    Calls Try.prog 35 #[.pointer (some ⟨b0, 0, none⟩)] w fun e w' => e = .returned (.bool r) ∧ SH w0 w' ([R_bits_Reader b0 a1] ++ F) := by
  refine fw_enter (n := 11) (bs := [b0]) (env := [(0, .p 0 0)]) (H := [.a (R_bits_Reader b0 a1)]) (F := F) Try.func35 rfl (by kernel_rfl) (by kernel_rfl) (by kernel_rfl) (hw.eq (by kernel_rfl)) ?_
  unfold bits_Reader_Bad at hres
  refine rn_seq ?_
  refine rn_q [] [0] [(0, .p 0 0)] [] (by kernel_rfl) trivial (fin_next ?_)
  refine rn_seq ?_
  refine rn_ex (V := Unit) (sv := fun v => ⟨[b0], [(0, .p 0 0)], [.c 0 [S a1.s, I a1.at_, B a1.bad] 113]⟩) (fun w hw => ?_) (fun _ => by kernel_rfl) (fun _ => by kernel_rfl) ?_
  · exact ⟨(), hw.sel [0] (by kernel_rfl)⟩
  rintro ⟨⟩
  refine rn_q [] [2] [(2, B a1.bad)] [] (by kernel_rfl) trivial (fin_next ?_)
  refine rn_ret ?_
  refine fin_fold [.a (R_bits_Reader b0 a1)] (fun w hw => hw.sel [0] (by kernel_rfl)) ?_
  refine fin_ret [.bool a1.bad] (by kernel_rfl) fun w' hw' => ?_
  have hq := Option.some.inj hres
  subst hq
  exact ⟨rfl, hw'.take (L' := [R_bits_Reader b0 a1]) [0] [] (by kernel_rfl)⟩
end Fl
