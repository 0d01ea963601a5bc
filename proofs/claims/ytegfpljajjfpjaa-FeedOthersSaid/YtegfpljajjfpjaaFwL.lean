import Derived.Test.YtegfpljajjfpjaaFwK
set_option linter.unusedVariables false
/-! ## 10. Regions that ask the tape: more -/
namespace Fw
open Go
section
variable {P : Program} {n : NN} {w0 : World} {F : List Asn} {s : SS} {Q : Exit → Act → World → Prop}
theorem St.is {t : Nat} {b c : Bool} {a : Act} {w : World} (hb : s.env.get t = some (.v (.bool b))) (e : b = c) (hs : St n w0 F s a w) : St n w0 F ⟨s.bs, (t, .v (.bool c)) :: s.env, s.heap⟩ a w := by
  subst e
  refine ⟨⟨hs.mt.size, hs.mt.defers, fun u x => ?_⟩, hs.sh⟩
  simp only [SEnv.get]
  cases hu : Nat.beq t u with
  | true =>
    have : t = u := Nat.eq_of_beq_eq_true hu
    subst this
    simp only [cond_true, Option.some.injEq]
    rintro rfl
    exact hs.mt.env t _ hb
  | false => simp only [cond_false]; exact hs.mt.env u x
theorem rh_is {ops : Array Oper} {Lc : List Asn} {fuel : Nat} {listed : Array Bool} (t : Nat) (b : Bool) {c : Bool} (e : b = c) (hb : s.env.get t = some (.v (.bool b))) (h : Rh P n w0 F ops Lc fuel listed ⟨s.bs, (t, .v (.bool c)) :: s.env, s.heap⟩ Q) : Rh P n w0 F ops Lc fuel listed s Q :=
  fun a w hs => h a w (hs.is hb e)
theorem rn_case {c : Code} (b : Bool) (ht : b = true → Rn P n w0 F c s Q) (hf : b = false → Rn P n w0 F c s Q) : Rn P n w0 F c s Q := by
  cases b with
  | true => exact ht rfl
  | false => exact hf rfl
theorem rop_nil {α : Type} (U : TypeId) (E : Enc α) {ops : Array Oper} {i : Nat} {K : Act → World → Prop} (h : Rop P n w0 F ops Q i ⟨s.bs, s.env, .a (slA U E none 0 ([] : List α)) :: s.heap⟩ K) : Rop P n w0 F ops Q i s K :=
  fun a w hs => h a w ⟨hs.mt, hs.sh.nilSl⟩
theorem fin_id {K : Act → World → Prop} (h : Fin n w0 F s K) : Fin n w0 F s K := h
theorem rn_meet {V : Type} {c : Code} (J : V → Prop) (sv : V → SS) (hx : Rn P n w0 F c s (Exit.then (fun a w => ∃ v, J v ∧ St n w0 F (sv v) a w) Q)) (hy : ∀ v, J v → Fin n w0 F (sv v) (Q .normal)) : Rn P n w0 F c s Q := fun a w hs =>
  wp_mono (hx a w hs) fun e a' w' hq => by
    cases e with
    | normal => obtain ⟨v, hJ, hs'⟩ := hq; exact hy v hJ a' w' hs'
    | _ => exact hq
/-- An operation that leaves the world alone, by itself. -/
theorem op_quiet {ops : Array Oper} {i : Nat} {K : Act → World → Prop} (hint : Option SV) (x : SV) (env' : SEnv) (o : Oper) (ho : ops[i]? = some o) (hns : Region.noSelect ops = true) (hw : wantedE ops s.env o = some true) (hk : knownB s.env o = true)
    (hx : qop P s.bs s.heap s.env hint o = some x) (hob : ∀ y, hint = some y → obOk P w0 (hden s.bs s.heap ++ F) (execOp (evE s.bs s.env) o, y.den s.bs)) (hp : putE n s.env o.dst x = some env') (h : Fin n w0 F ⟨s.bs, env', s.heap⟩ K) : Rop P n w0 F ops Q i s K := by
  intro a w hs
  have hsel : ∀ cs b, o.op ≠ .select cs b := fun cs b => Region.noSelect_spec hns i o cs b ho
  have hr := qop_run (P := P) (F' := []) hk hsel hx hob hs.mt (by rw [List.append_nil]; exact hs.sh)
  unfold wpOp
  simp only [ho, wantedE_run hw hs.mt, if_true]
  exact .inl (opwp_value hr (h _ _ ⟨hs.mt.put hp, hs.sh⟩))
end
end Fw
