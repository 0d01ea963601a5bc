import Derived.Test.YtegfpljajjfpjaaFwP
set_option linter.unusedVariables false
/-! ## 15. Panics -/
namespace Fw
open Go
section
variable {P : Program} {n : NN} {w0 : World} {F : List Asn} {s : SS} {Q : Exit → Act → World → Prop}
theorem op_panic {ops : Array Oper} {i : Nat} {K : Act → World → Prop} (x : Operand) (T : TypeId) (v : Value) {d : Option Tmp} (ho : opAt ops s.env i = some (.panic x, d, some true)) (hx : opdE s.env x = some (.v (.iface T v)))
    (h : Fin n w0 F s (Q (.panic [{ v := .iface T v, recovered := false }]))) : Rop P n w0 F ops Q i s K := by
  refine rop_of ho fun o a w h1 h2 hs => ?_
  have e1 : a.eval x = .iface T v := hs.mt.opd hx
  have hrun : (execOp a.eval o).run P w = .halt (.panic (.iface T v)) w := by
    simp only [execOp, h1, e1, Sem.run_bind, show ∀ w, (Instr.panic (.iface T v)).run P w = .halt (.panic (.iface T v)) w from fun _ => rfl]
    rfl
  unfold Oper.wp
  rw [hrun]
  exact h a w hs
theorem op_callpanic {ops : Array Oper} {i : Nat} {K : Act → World → Prop} {f : FuncId} {xs : Array Operand} {ats : Array TypeId} {d : Option Tmp} {args : Array Value}
    (ho : opAt ops s.env i = some (.call { callee := .value (.func f), args := xs, argTypes := ats }, d, some true)) (hk : xs.all (fun x => (opdE s.env x).isSome) = true)
    (hargs : #[] ++ xs.map (evE s.bs s.env) ++ #[] = args) (hf : pureRun P (callFunc f args) = some (.enter f args))
    (hc : ∀ w, SH w0 w (hden s.bs s.heap ++ F) → Calls P f args w (fun e w' => ∃ c H', e = .panicked c ∧ SH w0 w' (hden s.bs H' ++ F) ∧ Fin n w0 F ⟨s.bs, s.env, H'⟩ (Q (.panic c)))) : Rop P n w0 F ops Q i s K := by
  refine rop_of ho fun o a w h1 h2 hs => ?_
  have hmap : xs.map a.eval = xs.map (evE s.bs s.env) := Array.map_congr_left fun x hx => hs.mt.ev (Array.all_eq_true_iff_forall_mem.1 hk x hx)
  have he : execOp a.eval o = callFunc f args := by
    rw [← hargs, ← hmap]
    obtain ⟨dst, op, ty, pos, after, guard⟩ := o
    simp only at h1
    subst h1
    rfl
  unfold Oper.wp
  rw [he, pureRun_run hf w]
  simp only [Oper.upon]
  refine (hc w hs.sh).mono fun e w' hr => ?_
  obtain ⟨c, H', rfl, hsh, hfin⟩ := hr
  exact hfin _ _ ⟨hs.mt, hsh⟩
theorem fin_then_panic {K : Act → World → Prop} {c : List PanicEntry} (h : Fin n w0 F s (Q (.panic c))) : Fin n w0 F s (Exit.then K Q (.panic c)) := h
theorem fin_block_panic {id : Nat} {c : List PanicEntry} (h : Fin n w0 F s (Q (.panic c))) : Fin n w0 F s (Exit.inBlock id Q (.panic c)) := h
theorem fin_scope_panic {J : Nat → Act → World → Prop} {c : List PanicEntry} (h : Fin n w0 F s (Q (.panic c))) : Fin n w0 F s (Exit.jumps J Q (.panic c)) := h
theorem fin_panic {fn : Func} {R : Ending → World → Prop} {c : List PanicEntry} (h : ∀ w, SH w0 w (hden s.bs s.heap ++ F) → R (.panicked c) w) (hD : n.D = [] := by rfl) : Fin n w0 F s (bodyPost P fn R (.panic c)) := fun _ w hs => ⟨hs.mt.defers.trans hD, h w hs.sh⟩
end
end Fw
namespace Fw
open Go
def onOk {α γ : Type} (y : Except Value α) (e : Value → γ) (k : α → γ) : γ := match y with
  | .error v => e v
  | .ok x => k x
end Fw
