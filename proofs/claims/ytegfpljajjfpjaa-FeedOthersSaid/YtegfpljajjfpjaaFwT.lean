import Derived.Test.YtegfpljajjfpjaaFwS
import Derived.Recover
set_option linter.unusedVariables false
/-! ## 18. One deferred closure that recovers -/
namespace Fw
open Go
section
variable {P : Program} {n : NN} {w0 : World} {F : List Asn} {s : SS} {Q : Exit → Act → World → Prop}
theorem enter_env {env : SEnv} {bs : List Nat} {args : Array Value} {m : Nat} (hlt : env.all (fun p => Nat.blt p.1 args.size) = true) (hv : env.map (fun p => p.2.den bs) = env.map (fun p => args.getD p.1 undef)) (t : Nat) (x : SV) (hx : env.get t = some x) :
    (args ++ Array.replicate m undef)[t]? = some (x.den bs) := by
  have key : ∀ (e : SEnv), e.all (fun p => Nat.blt p.1 args.size) = true → e.map (fun p => p.2.den bs) = e.map (fun p => args.getD p.1 undef) → e.get t = some x → args[t]? = some (x.den bs) := by
    intro e
    induction e with
    | nil => intro _ _ h; simp [SEnv.get] at h
    | cons z e ih =>
      obtain ⟨i, y⟩ := z
      intro h1 h2 h3
      simp only [List.all_cons, Bool.and_eq_true, List.map_cons, List.cons.injEq] at h1 h2
      simp only [SEnv.get] at h3
      cases hi : Nat.beq i t with
      | true =>
        have : i = t := Nat.eq_of_beq_eq_true hi
        subst this
        simp only [hi, cond_true, Option.some.injEq] at h3
        subst h3
        have hlt : i < args.size := Nat.le_of_ble_eq_true h1.1
        rw [h2.1]
        simp [hlt]
      | false =>
        simp only [hi, cond_false] at h3
        exact ih h1.2 h2.2 h3
  have h1 := key env hlt hv hx
  have hts : t < args.size := (Array.getElem?_eq_some_iff.1 h1).1
  rw [Array.getElem?_append_left hts]
  exact h1
theorem fw_enter_d {f : FuncId} {fn : Func} {c : Code} {args : Array Value} {w : World} {R : Ending → World → Prop} {bs : List Nat} {env : SEnv} {H : List HE}
    (hf : P.funcs[f]? = some fn) (hb : fn.body = some c) (hn : args.size + (fn.ntmps - args.size) = n.n) (hlt : env.all (fun p => Nat.blt p.1 args.size) = true)
    (hv : env.map (fun p => p.2.den bs) = env.map (fun p => args.getD p.1 undef)) (hw : SH w0 w (hden bs H ++ F))
    (h : Rn P n w0 F c ⟨bs, env, H⟩ (bodyPostD P fn R)) (hD : n.D = [] := by rfl) : Calls P f args w R :=
  calls_of_wp_defers hf hb (h _ _ ⟨⟨by simpa using hn, hD.symm, fun t x hx => enter_env hlt hv t x hx⟩, hw⟩)
theorem op_defer {ops : Array Oper} {i : Nat} {K : Act → World → Prop} {x : Operand} {ats : Array TypeId} {fv : Fn} {caps : Array Value} (ho : opAt ops s.env i = some (.defer { callee := .value x, args := #[], argTypes := ats }, none, some true)) (hx : opdE s.env x = some (.v (.func fv #[] caps)))
    (h : Fin ⟨n.n, { target := .fn fv caps, args := #[] } :: n.D⟩ w0 F s K) : Rop P n w0 F ops Q i s K := by
  refine rop_of ho fun o a w h1 h2 hs => ?_
  have hxe : a.eval x = .func fv #[] caps := hs.mt.opd hx
  have hrun : (execOp a.eval o).run P w = .ok (.defer { target := .fn fv caps, args := #[] }) w := by
    simp [execOp, h1, resolve, hxe, Deferred.ofValue]
  unfold Oper.wp
  rw [hrun, Oper.upon_defer, h2]
  exact h _ _ ⟨⟨hs.mt.size, by show _ :: a.defers = _; rw [hs.mt.defers], hs.mt.env⟩, hs.sh⟩
/-- What the results are in a state. -/
theorem res_run {fn : Func} {vs : List Value} {a : Act} {H' : List HE} {w : World} (hr : resVs P s.bs H' s.env fn.results.toList = some vs) (hm : Mt n s.bs s.env a) (hw : SH w0 w (hden s.bs H' ++ F)) : (results fn a.tmps).run P w = .ok (oneOf vs) w := by
  have hm' : Mt ⟨n.n, []⟩ s.bs s.env { a with defers := [] } := ⟨hm.size, rfl, hm.env⟩
  obtain ⟨_, v, hv, hR⟩ := fin_body (n := ⟨n.n, []⟩) (s := ⟨s.bs, s.env, H'⟩) (R := fun e _ => e = .returned (oneOf vs)) hr (fun _ _ => rfl) rfl { a with defers := [] } w ⟨hm', hw⟩
  cases hR
  exact hv
theorem fin_ret_d {fn : Func} {R : Ending → World → Prop} {g : FuncId} {caps : Array Value} (vs : List Value) (hD : n.D = [{ target := .fn (.func g) caps, args := #[] }]) (hf : pureRun P (callFunc g caps) = some (.enter g caps))
    (hc : ∀ w, SH w0 w (hden s.bs s.heap ++ F) → CallsD P g caps .returning w fun e u' w' => e = .returned (.tuple #[]) ∧ u' = .returning ∧ SH w0 w' (hden s.bs s.heap ++ F)) (hr : resVs P s.bs s.heap s.env fn.results.toList = some vs)
    (hR : ∀ w, SH w0 w (hden s.bs s.heap ++ F) → R (.returned (oneOf vs)) w) : Fin n w0 F s (bodyPostD P fn R .ret) := fun a w hs => by
  show Leaves P fn a.tmps R a.defers .returning w
  rw [hs.mt.defers, hD]
  refine leaves_cons (f := g) (args := caps) (by simp) ?_ ((hc w hs.sh).mono ?_)
  · show (callFunc g (#[] ++ caps)).run P w = _
    rw [Array.empty_append, pureRun_run hf w]
  · rintro e u' w' ⟨rfl, rfl, hsh⟩
    exact ⟨oneOf vs, res_run hr hs.mt hsh, hR _ hsh⟩
theorem fin_panic_d {fn : Func} {R : Ending → World → Prop} {g : FuncId} {caps : Array Value} {pv : Value} (vs : List Value) (H' : List HE) (hD : n.D = [{ target := .fn (.func g) caps, args := #[] }]) (hf : pureRun P (callFunc g caps) = some (.enter g caps))
    (hc : ∀ w, SH w0 w (hden s.bs s.heap ++ F) → CallsD P g caps (.panicking [{ v := pv, recovered := false }]) w fun e u' w' => e = .returned (.tuple #[]) ∧ u' = .panicking [{ v := pv, recovered := true }] ∧ SH w0 w' (hden s.bs H' ++ F)) (hr : resVs P s.bs H' s.env fn.results.toList = some vs)
    (hR : ∀ w, SH w0 w (hden s.bs H' ++ F) → R (.returned (oneOf vs)) w) : Fin n w0 F s (bodyPostD P fn R (.panic [{ v := pv, recovered := false }])) := fun a w hs => by
  show Leaves P fn a.tmps R a.defers (.panicking [{ v := pv, recovered := false }]) w
  rw [hs.mt.defers, hD]
  refine leaves_cons (f := g) (args := caps) (by simp) ?_ ((hc w hs.sh).mono ?_)
  · show (callFunc g (#[] ++ caps)).run P w = _
    rw [Array.empty_append, pureRun_run hf w]
  · rintro e u' w' ⟨rfl, rfl, hsh⟩
    exact ⟨oneOf vs, res_run hr hs.mt hsh, hR _ hsh⟩

/-! ### The closure -/
def catchQ (P : Program) (fn : Func) (c₀ : Frame) (cs cs' : List Frame) (R : Ending → FrameMode → World → Prop) (e : Exit) (a : Act) (w : World) : Prop := bodyPostS P fn c₀ cs R e a cs' w
instance {P : Program} {fn : Func} {c₀ : Frame} {cs cs' : List Frame} {R : Ending → FrameMode → World → Prop} : PF (catchQ P fn c₀ cs cs' R) := ⟨fun c a d v w hq => by cases d <;> exact hq⟩
theorem recover_first {fn : Func} {c₀ : Frame} {cs cs' : List Frame} {R : Ending → FrameMode → World → Prop} {id : Nat} {o : Oper} {y : Code} {v : Value} {a : Act} {w : World} (ho : ∀ ρ, execOp ρ o = pure .recover) (hg : o.guard = none)
    (hrec : recoverD (c₀ :: cs) = some (v, cs') ∨ recoverD (c₀ :: cs) = none ∧ v = .nilIface ∧ cs' = c₀ :: cs) (h : y.wp P (catchQ P fn c₀ cs cs' R) (a.put o.dst v) w) :
    (Code.seq (.region id #[o] false) y).wpS P (bodyPostS P fn c₀ cs R) a (c₀ :: cs) w := by
  apply wpS_seq
  apply wpS_region
  have hwant : Region.wanted o (yielded #[o] a.tmps) = true := by simp [Region.wanted, hg]
  have hrun : (execOp a.eval o).run P w = .ok .recover w := by rw [ho]; rfl
  have hfin : (y.wpS P (bodyPostS P fn c₀ cs R)) (a.put o.dst v) cs' w := wpS_of_wp h
  have hl : List.range (#[o] : Array Oper).size = [0] := rfl
  simp only [hl, wpOpsS, show (#[o] : Array Oper)[0]? = some o from rfl, hwant, if_true, hrun]
  rcases hrec with hr | ⟨hr, rfl, rfl⟩
  · simp only [hr]; exact hfin
  · simp only [hr]; exact hfin
theorem catch_enter {g : FuncId} {fn : Func} {id : Nat} {o : Oper} {y : Code} {args : Array Value} {u u' : FrameMode} {w : World} {R : Ending → FrameMode → World → Prop} {bs : List Nat} {env : SEnv} {H : List HE} {v : Value} (d : Tmp)
    (hf : P.funcs[g]? = some fn) (hb : fn.body = some (.seq (.region id #[o] false) y)) (ho : ∀ ρ, execOp ρ o = pure .recover) (hg : o.guard = none) (hd : o.dst = some d) (hdn : Nat.blt d n.n = true) (hn : args.size + (fn.ntmps - args.size) = n.n) (hlt : env.all (fun p => Nat.blt p.1 args.size) = true)
    (hv : env.map (fun p => p.2.den bs) = env.map (fun p => args.getD p.1 undef)) (hw : SH w0 w (hden bs H ++ F))
    (hu : (∃ older, u = .panicking ({ v := v, recovered := false } :: older) ∧ u' = .panicking ({ v := v, recovered := true } :: older)) ∨ u = .returning ∧ u' = .returning ∧ v = .nilIface)
    (h : ∀ c₀ cs cs', cs' = { c₀ with mode := u' } :: cs → Rn P n w0 F y ⟨bs, (d, .v v) :: env, H⟩ (catchQ P fn c₀ cs cs' R)) (hD : n.D = [] := by rfl) : CallsD P g args u w R := by
  refine callsD_of_wpS hf hb fun c₀ cs hm => ?_
  have hmt : Mt n bs env { tmps := args ++ Array.replicate (fn.ntmps - args.size) undef, defers := [] } := ⟨by simpa using hn, hD.symm, fun t x hx => enter_env hlt hv t x hx⟩
  have hput : putE n env o.dst (.v v) = some ((d, .v v) :: env) := by rw [hd]; simp only [putE, hdn, cond_true]
  rcases hu with ⟨older, rfl, rfl⟩ | ⟨rfl, rfl, rfl⟩
  · refine recover_first (v := v) (cs' := { c₀ with mode := .panicking ({ v := v, recovered := true } :: older) } :: cs) ho hg (.inl ?_) (h c₀ cs _ rfl _ _ ⟨hmt.put hput, hw⟩)
    simp [recoverD, hm]
  · refine recover_first (v := .nilIface) (cs' := c₀ :: cs) ho hg (.inr ⟨by simp [recoverD, hm], rfl, rfl⟩) (h c₀ cs _ ?_ _ _ ⟨hmt.put hput, hw⟩)
    cases c₀; simp_all
theorem fin_catch {fn : Func} {c₀ : Frame} {cs cs' : List Frame} {R : Ending → FrameMode → World → Prop} {u' : FrameMode} (hcs : cs' = { c₀ with mode := u' } :: cs) (hres : fn.results = #[]) (hR : ∀ w, SH w0 w (hden s.bs s.heap ++ F) → R (.returned (.tuple #[])) u' w) (hD : n.D = [] := by rfl) : Fin n w0 F s (catchQ P fn c₀ cs cs' R .normal) := fun a w hs =>
  ⟨hs.mt.defers.trans hD, u', hcs, .tuple #[], by simp [results, hres], hR w hs.sh⟩
end
end Fw
namespace Fw
open Go
/-- The number that a fault bears. -/
def catchC : List Value → Option Int
  | [.int .i64 x] => some x
  | _ => none
def catchV (T : TypeId) : Value → Option Int
  | .iface U (.agg cs) => if U = T then catchC cs.toList else none
  | _ => none
theorem catchC_spec {l : List Value} {x : Int} (h : catchC l = some x) : l = [.int .i64 x] := by
  unfold catchC at h
  split at h <;> cases h
  rfl
theorem catchV_spec {T : TypeId} {v : Value} {x : Int} (h : catchV T v = some x) : v = .iface T (.agg #[.int .i64 x]) := by
  unfold catchV at h
  split at h
  · rename_i U cs
    split at h
    · rename_i hU
      subst hU
      obtain ⟨l⟩ := cs
      obtain rfl := catchC_spec h
      rfl
    · cases h
  · cases h
end Fw
