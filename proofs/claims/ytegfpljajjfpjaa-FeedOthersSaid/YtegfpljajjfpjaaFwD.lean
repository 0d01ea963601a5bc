import Derived.Test.YtegfpljajjfpjaaFwC
set_option linter.unusedVariables false
/-! ## 3. Judgements and rules -/
namespace Fw
open Go

structure SS where
  bs : List Nat
  env : SEnv
  heap : List HE

structure St (n : NN) (w0 : World) (F : List Asn) (s : SS) (a : Act) (w : World) : Prop where
  mt : Mt n s.bs s.env a
  sh : SH w0 w (hden s.bs s.heap ++ F)

def Fin (n : NN) (w0 : World) (F : List Asn) (s : SS) (K : Act → World → Prop) : Prop := ∀ a w, St n w0 F s a w → K a w
def Rn (P : Program) (n : NN) (w0 : World) (F : List Asn) (c : Code) (s : SS) (Q : Exit → Act → World → Prop) : Prop := ∀ a w, St n w0 F s a w → c.wp P Q a w

/-- What a panic owes does not look at the temporaries. -/
class PF (Q : Exit → Act → World → Prop) : Prop where
  pf : ∀ c a d v w, Q (.panic c) (Act.put a d v) w → Q (.panic c) a w
instance {K : Act → World → Prop} {Q : Exit → Act → World → Prop} [h : PF Q] : PF (Exit.then K Q) := ⟨fun c a d v w hq => h.pf c a d v w hq⟩
instance {id : Nat} {Q : Exit → Act → World → Prop} [h : PF Q] : PF (Exit.inBlock id Q) := ⟨fun c a d v w hq => h.pf c a d v w hq⟩
instance {P : Program} {fn : Func} {R : Ending → World → Prop} : PF (bodyPost P fn R) := ⟨fun c a d v w hq => by cases d <;> exact hq⟩

section
variable {P : Program} {n : NN} {w0 : World} {F : List Asn} {s : SS} {Q : Exit → Act → World → Prop}

/-! ### Control -/
theorem rn_seq {x y : Code} (h : Rn P n w0 F x s (Exit.then (y.wp P Q) Q)) : Rn P n w0 F (.seq x y) s Q := fun a w hs => wp_seq (h a w hs)
theorem rn_skip (h : Fin n w0 F s (Q .normal)) : Rn P n w0 F .skip s Q := fun a w hs => wp_skip (h a w hs)
theorem rn_exit {id : Nat} (h : Fin n w0 F s (Q (.exit id))) : Rn P n w0 F (.exit id) s Q := fun a w hs => wp_exit (h a w hs)
theorem rn_ret (h : Fin n w0 F s (Q .ret)) : Rn P n w0 F .ret s Q := fun a w hs => wp_ret (h a w hs)
theorem rn_block {id : Nat} {c : Code} (h : Rn P n w0 F c s (Exit.inBlock id Q)) : Rn P n w0 F (.block id c) s Q := fun a w hs => wp_block (h a w hs)
theorem fin_next {y : Code} (h : Rn P n w0 F y s Q) : Fin n w0 F s (Exit.then (y.wp P Q) Q .normal) := h
theorem fin_then {K : Act → World → Prop} (h : Fin n w0 F s K) : Fin n w0 F s (Exit.then K Q .normal) := h
theorem fin_then_exit {K : Act → World → Prop} {id : Nat} (h : Fin n w0 F s (Q (.exit id))) : Fin n w0 F s (Exit.then K Q (.exit id)) := h
theorem fin_then_ret {K : Act → World → Prop} (h : Fin n w0 F s (Q .ret)) : Fin n w0 F s (Exit.then K Q .ret) := h
theorem fin_block {id : Nat} (h : Fin n w0 F s (Q .normal)) : Fin n w0 F s (Exit.inBlock id Q .normal) := h
theorem fin_block_ret {id : Nat} (h : Fin n w0 F s (Q .ret)) : Fin n w0 F s (Exit.inBlock id Q .ret) := h
theorem fin_block_exit {id : Nat} (h : Fin n w0 F s (Q .normal)) : Fin n w0 F s (Exit.inBlock id Q (.exit id)) := fun a w hs => by
  simp only [Exit.inBlock, if_true]; exact h a w hs
theorem fin_block_other {id id' : Nat} (hne : id' ≠ id) (h : Fin n w0 F s (Q (.exit id'))) : Fin n w0 F s (Exit.inBlock id Q (.exit id')) := fun a w hs => by
  simp only [Exit.inBlock, if_neg hne]; exact h a w hs

theorem rn_cond {c : Operand} {x y : Code} (b : Bool) (hc : opdE s.env c = some (.v (.bool b))) (ht : b = true → Rn P n w0 F x s Q) (hf : b = false → Rn P n w0 F y s Q) :
    Rn P n w0 F (.cond c x y) s Q := fun a w hs =>
  wp_cond_split (t := b) (hs.mt.opd hc) (fun h => ht h a w hs) (fun h => hf h a w hs)
theorem rn_cond_t {c : Operand} {x y : Code} (hc : opdE s.env c = some (.v (.bool true))) (ht : Rn P n w0 F x s Q) : Rn P n w0 F (.cond c x y) s Q := fun a w hs => wp_cond_true (hs.mt.opd hc) (ht a w hs)
theorem rn_cond_f {c : Operand} {x y : Code} (hc : opdE s.env c = some (.v (.bool false))) (hf : Rn P n w0 F y s Q) : Rn P n w0 F (.cond c x y) s Q := fun a w hs => wp_cond_false (hs.mt.opd hc) (hf a w hs)

/-- The same state, written otherwise: what is asked of it is a part, in another order, of what is known. -/
theorem St.conv {s' : SS} {a : Act} {w : World} (h : St n w0 F s a w) (is : List Nat) (he : s'.env.all (fun p => (s.env.get p.1).isSome) = true)
    (hv : s'.env.map (fun p => p.2.den s'.bs) = s'.env.map (fun p => match s.env.get p.1 with | some x => x.den s.bs | none => undef))
    (hh : ∃ R, picked is (hden s.bs s.heap) = hden s'.bs s'.heap ++ R) : St n w0 F s' a w := by
  refine ⟨⟨h.mt.size, h.mt.defers, fun t x hx => ?_⟩, ?_⟩
  · have key : ∀ (e : SEnv), e.all (fun p => (s.env.get p.1).isSome) = true → e.map (fun p => p.2.den s'.bs) = e.map (fun p => match s.env.get p.1 with | some x => x.den s.bs | none => undef) →
        e.get t = some x → ∃ y, s.env.get t = some y ∧ y.den s.bs = x.den s'.bs := by
      intro e
      induction e with
      | nil => intro _ _ h; simp [SEnv.get] at h
      | cons z e ih =>
        obtain ⟨i, y⟩ := z
        intro h1 h2 h3
        simp only [List.all_cons, Bool.and_eq_true, List.map_cons, List.cons.injEq] at h1 h2
        simp only [SEnv.get] at h3
        cases hi : Nat.beq i t with
        | true =>
          have : i = t := Nat.eq_of_beq_eq_true hi
          subst this
          simp only [hi, cond_true, Option.some.injEq] at h3
          subst h3
          obtain ⟨u, hu⟩ := Option.isSome_iff_exists.1 h1.1
          refine ⟨u, hu, ?_⟩
          rw [h2.1, hu]
        | false =>
          simp only [hi, cond_false] at h3
          exact ih h1.2 h2.2 h3
    obtain ⟨y, hy, hyx⟩ := key s'.env he hv hx
    rw [← hyx]
    exact h.mt.env t y hy
  · obtain ⟨R, hR⟩ := hh
    have h1 : SH w0 w (picked is (hden s.bs s.heap) ++ F) := h.sh.perm ((picked_perm is _).append_right F)
    rw [hR] at h1
    have h2 : SH w0 w (R ++ (hden s'.bs s'.heap ++ F)) := h1.perm (by
      rw [← List.append_assoc]
      exact List.perm_append_comm.append_right F)
    exact h2.drop

theorem St.fold {s' : SS} {a : Act} {w : World} (h : St n w0 F s a w) (hb : s'.bs = s.bs) (he : s'.env = s.env) (hh : ∀ w, SH w0 w (hden s.bs s.heap ++ F) → SH w0 w (hden s'.bs s'.heap ++ F)) : St n w0 F s' a w :=
  ⟨by rw [hb, he]; exact h.mt, hh w h.sh⟩

/-! ### Operations one by one -/
def wantedE (ops : Array Oper) (env : SEnv) (o : Oper) : Option Bool :=
  match o.guard with
  | none => some true
  | some (j, want) =>
    match (ops[j]?).bind (·.dst) with
    | some d => match env.get d with
      | some (.v (.bool b)) => some (b == want)
      | some (.v (.tuple _)) => some false
      | _ => none
    | none => none
theorem wantedE_run {ops : Array Oper} {bs : List Nat} {env : SEnv} {o : Oper} {b : Bool} {a : Act} (h : wantedE ops env o = some b) (hm : Mt n bs env a) : Region.wanted o (yielded ops a.tmps) = b := by
  unfold wantedE at h
  unfold Region.wanted
  cases hg : o.guard with
  | none => simp only [hg, Option.some.injEq] at h; subst h; rfl
  | some g =>
    obtain ⟨j, want⟩ := g
    simp only [hg] at h ⊢
    cases hd : (ops[j]?).bind (·.dst) with
    | none => simp [hd] at h
    | some d =>
      simp only [hd] at h
      split at h
      · rename_i c hc
        simp only [Option.some.injEq] at h
        have := hm.env d _ hc
        have hy : yielded ops a.tmps j = some c := by
          unfold yielded
          rw [hd]
          simp [this, SV.den]
        rw [hy, ← h]
        cases c <;> cases want <;> rfl
      · rename_i c hc
        simp only [Option.some.injEq] at h
        have := hm.env d _ hc
        have hy : yielded ops a.tmps j = none := by
          unfold yielded
          rw [hd]
          simp [this, SV.den]
        rw [hy, ← h]
        rfl
      · cases h

/-- Operation number i, from a state. -/
def Rop (P : Program) (n : NN) (w0 : World) (F : List Asn) (ops : Array Oper) (Q : Exit → Act → World → Prop) (i : Nat) (s : SS) (K : Act → World → Prop) : Prop :=
  ∀ a w, St n w0 F s a w → wpOp P ops Q i K a w

/-- The operation, where it goes, and whether it is carried out. -/
def opAt (ops : Array Oper) (env : SEnv) (i : Nat) : Option (Op × Option Tmp × Option Bool) := (ops[i]?).map fun o => (o.op, o.dst, wantedE ops env o)

theorem opAt_spec {ops : Array Oper} {env : SEnv} {i : Nat} {op : Op} {d : Option Tmp} {b : Bool} (h : opAt ops env i = some (op, d, some b)) :
    ∃ o, ops[i]? = some o ∧ o.op = op ∧ o.dst = d ∧ wantedE ops env o = some b := by
  unfold opAt at h
  simp only [Option.map_eq_some_iff, Prod.mk.injEq] at h
  obtain ⟨o, h1, h2, h3, h4⟩ := h
  exact ⟨o, h1, h2, h3, h4⟩

theorem rop_of {ops : Array Oper} {i : Nat} {K : Act → World → Prop} {op : Op} {d : Option Tmp} (ho : opAt ops s.env i = some (op, d, some true))
    (h : ∀ (o : Oper) a w, o.op = op → o.dst = d → St n w0 F s a w → o.wp P a w K Q) : Rop P n w0 F ops Q i s K := by
  intro a w hs
  obtain ⟨o, h1, h2, h3, h4⟩ := opAt_spec ho
  unfold wpOp
  simp only [h1, wantedE_run h4 hs.mt, if_true]
  exact .inl (h o a w h2 h3 hs)

theorem rop_off {ops : Array Oper} {i : Nat} {K : Act → World → Prop} {op : Op} {d : Option Tmp} {env' : SEnv} (ho : opAt ops s.env i = some (op, d, some false)) (hp : putE n s.env d (.v undef) = some env')
    (h : Fin n w0 F { s with env := env' } K) : Rop P n w0 F ops Q i s K := by
  intro a w hs
  obtain ⟨o, h1, h2, h3, h4⟩ := opAt_spec ho
  unfold wpOp
  simp only [h1, wantedE_run h4 hs.mt]
  exact h _ _ ⟨by rw [h3]; exact hs.mt.put hp, hs.sh⟩

theorem opwp_value {o : Oper} {a : Act} {w w' : World} {K : Act → World → Prop} {v : Value} (hr : (execOp a.eval o).run P w = .ok (.value v) w') (h : K (a.put o.dst v) w') : o.wp P a w K Q := by
  unfold Oper.wp; rw [hr]; exact h
theorem opwp_skip {o : Oper} {a : Act} {w w' : World} {K : Act → World → Prop} (hr : (execOp a.eval o).run P w = .ok .skip w') (h : K (a.put o.dst undef) w') : o.wp P a w K Q := by
  unfold Oper.wp; rw [hr]; exact h

/-! ### Operations that leave the world alone, in one go -/
/-- The operations that stand at the head of a list, numbered from i on. hs: the hints. -/
def qrunL (P : Program) (n : NN) (ops : Array Oper) (bs : List Nat) (H : List HE) (hs : List (Nat × SV)) : Nat → List Oper → SEnv → Option (SEnv × List (Sem Next × Value))
  | _, [], env => some (env, [])
  | i, o :: l, env =>
    match wantedE ops env o with
    | none => none
    | some false => match putE n env o.dst (.v undef) with
      | some env' => qrunL P n ops bs H hs (i + 1) l env'
      | none => none
    | some true =>
      bif knownB env o then
        match o.op with
        | .select _ _ => none
        | _ =>
        match qop P bs H env (SEnv.get hs i) o with
        | none => none
        | some x => match putE n env o.dst x with
          | none => none
          | some env' => match qrunL P n ops bs H hs (i + 1) l env' with
            | none => none
            | some (env2, obs) => some (env2, match SEnv.get hs i with
              | some y => (execOp (evE bs env) o, y.den bs) :: obs
              | none => obs)
      else none

def AllOk (p : Sem Next × Value → Prop) : List (Sem Next × Value) → Prop
  | [] => True
  | x :: l => p x ∧ AllOk p l

theorem qrunL_run {ops : Array Oper} {bs : List Nat} {H : List HE} {hs : List (Nat × SV)} {rest : List Oper} : ∀ (l : List Oper) (i : Nat) (env env' : SEnv) (obs : List (Sem Next × Value)) (a : Act) (w : World),
    qrunL P n ops bs H hs i l env = some (env', obs) → AllOk (obOk P w0 (hden bs H ++ F)) obs → Mt n bs env a → SH w0 w (hden bs H ++ F) →
    (∀ a', Mt n bs env' a' → wpList P ops Q rest a' w) → wpList P ops Q (l ++ rest) a w
  | [], _, env, env', obs, a, w, h, _, hm, _, hk => by
    simp only [qrunL, Option.some.injEq, Prod.mk.injEq] at h
    obtain ⟨rfl, rfl⟩ := h
    exact hk a hm
  | o :: l, i, env, env', obs, a, w, h, hobs, hm, hw, hk => by
    unfold qrunL at h
    rw [List.cons_append]
    unfold wpList
    cases hwd : wantedE ops env o with
    | none => simp [hwd] at h
    | some b =>
      cases b with
      | false =>
        simp only [hwd] at h
        cases hp : putE n env o.dst (.v undef) with
        | none => simp [hp] at h
        | some env1 =>
          simp only [hp] at h
          rw [if_neg (by rw [wantedE_run hwd hm]; simp)]
          exact qrunL_run l (i + 1) env1 env' obs _ w h hobs (hm.put hp) hw hk
      | true =>
        simp only [hwd] at h
        rw [if_pos (wantedE_run hwd hm)]
        cases hkn : knownB env o with
        | false => simp [hkn] at h
        | true =>
          simp only [hkn, cond_true] at h
          split at h
          · cases h
          · rename_i hsel
            cases hx : qop P bs H env (SEnv.get hs i) o with
            | none => simp [hx] at h
            | some x =>
              simp only [hx] at h
              cases hp : putE n env o.dst x with
              | none => simp [hp] at h
              | some env1 =>
                simp only [hp] at h
                cases hr : qrunL P n ops bs H hs (i + 1) l env1 with
                | none => simp [hr] at h
                | some r =>
                  obtain ⟨env2, obs2⟩ := r
                  simp only [hr, Option.some.injEq, Prod.mk.injEq] at h
                  obtain ⟨rfl, hob⟩ := h
                  have hob' : (∀ y, SEnv.get hs i = some y → obOk P w0 (hden bs H ++ F) (execOp (evE bs env) o, y.den bs)) ∧ AllOk (obOk P w0 (hden bs H ++ F)) obs2 := by
                    subst hob
                    cases hh : SEnv.get hs i with
                    | none => simp only [hh] at hobs; exact ⟨fun y hy => (by cases hy), hobs⟩
                    | some z =>
                      simp only [hh] at hobs
                      exact ⟨fun y hy => by cases hy; exact hobs.1, hobs.2⟩
                  have hrun := qop_run (F' := []) hkn (fun cs b he => hsel cs b he) hx hob'.1 hm (by rw [List.append_nil]; exact hw)
                  exact .inl (opwp_value hrun (qrunL_run l (i + 1) env1 env2 obs2 _ w hr hob'.2 (hm.put hp) hw hk))

/-- The text's order. -/
def Ro (P : Program) (n : NN) (w0 : World) (F : List Asn) (ops : Array Oper) (i : Nat) (s : SS) (Q : Exit → Act → World → Prop) : Prop :=
  ∀ a w, St n w0 F s a w → wpList P ops Q (ops.toList.drop i) a w

theorem rn_text {id : Nat} {ops : Array Oper} (h : Ro P n w0 F ops 0 s Q) : Rn P n w0 F (.region id ops false) s Q := fun a w hs => wp_region_list (h a w hs)
theorem ro_end {ops : Array Oper} {i : Nat} (hi : ops.toList.drop i = []) (h : Fin n w0 F s (Q .normal)) : Ro P n w0 F ops i s Q := fun a w hs => by rw [hi]; exact h a w hs
theorem ro_op {ops : Array Oper} {i : Nat} (hi : Nat.blt i ops.size = true) (h : Rop P n w0 F ops Q i s (fun a w => wpList P ops Q (ops.toList.drop (i + 1)) a w)) : Ro P n w0 F ops i s Q := fun a w hs => by
  have hi' : i < ops.toList.length := by have h0 : i + 1 ≤ ops.size := Nat.le_of_ble_eq_true hi; simp only [Array.length_toList]; omega
  rw [List.drop_eq_getElem_cons hi']
  have := h a w hs
  unfold wpOp at this
  have ho : ops[i]? = some ops.toList[i] := by simp at hi'; simp [hi']
  rw [ho] at this
  unfold wpList
  exact this
theorem ro_fin {ops : Array Oper} {i : Nat} (h : Ro P n w0 F ops i s Q) : Fin n w0 F s (fun a w => wpList P ops Q (ops.toList.drop i) a w) := h

def keepR (l : List Nat) : Option (SEnv × List (Sem Next × Value)) → Option (SEnv × List (Sem Next × Value))
  | some (e, o) => some (e.keep l, o)
  | none => none
theorem keepR_spec {l : List Nat} {r : Option (SEnv × List (Sem Next × Value))} {e : SEnv} {o : List (Sem Next × Value)} (h : keepR l r = some (e, o)) : ∃ e', r = some (e', o) ∧ e = e'.keep l := by
  cases r with
  | none => cases h
  | some x =>
    obtain ⟨e', o'⟩ := x
    simp only [keepR, Option.some.injEq, Prod.mk.injEq] at h
    obtain ⟨rfl, rfl⟩ := h
    exact ⟨e', rfl, rfl⟩

/-- m operations that leave the world alone; then only the slots l are kept. -/
theorem ro_q {ops : Array Oper} {i : Nat} (m : Nat) (hs : List (Nat × SV)) (l : List Nat) (env' : SEnv) (obs : List (Sem Next × Value))
    (h : keepR l (qrunL P n ops s.bs s.heap hs i ((ops.toList.drop i).take m) s.env) = some (env', obs)) (hobs : AllOk (obOk P w0 (hden s.bs s.heap ++ F)) obs)
    (hk : Ro P n w0 F ops (i + m) { s with env := env' } Q) : Ro P n w0 F ops i s Q := fun a w hst => by
  obtain ⟨e1, h1, rfl⟩ := keepR_spec h
  have hsplit : ops.toList.drop i = (ops.toList.drop i).take m ++ ops.toList.drop (i + m) := by
    rw [← List.drop_drop, List.take_append_drop]
  rw [hsplit]
  refine qrunL_run _ i s.env e1 obs a w h1 hobs hst.mt hst.sh fun a' hm' => hk a' w ⟨hm'.keep l, hst.sh⟩

/-- A whole region that leaves the world alone. -/
theorem rn_q {id : Nat} {ops : Array Oper} (hs : List (Nat × SV)) (l : List Nat) (env' : SEnv) (obs : List (Sem Next × Value))
    (h : keepR l (qrunL P n ops s.bs s.heap hs 0 ops.toList s.env) = some (env', obs)) (hobs : AllOk (obOk P w0 (hden s.bs s.heap ++ F)) obs)
    (hk : Fin n w0 F { s with env := env' } (Q .normal)) : Rn P n w0 F (.region id ops false) s Q := by
  refine rn_text (ro_q ops.toList.length hs l env' obs (by rw [List.drop_zero, List.take_length]; exact h) hobs (ro_end (by simp) hk))

/-- A test is decided. -/
theorem ro_split {ops : Array Oper} {i : Nat} (t : Nat) (b : Bool) (hb : s.env.get t = some (.v (.bool b)))
    (ht : b = true → Ro P n w0 F ops i { s with env := (t, .v (.bool true)) :: s.env } Q) (hf : b = false → Ro P n w0 F ops i { s with env := (t, .v (.bool false)) :: s.env } Q) : Ro P n w0 F ops i s Q := by
  intro a w hs
  have key : ∀ c, b = c → St n w0 F { s with env := (t, .v (.bool c)) :: s.env } a w := by
    rintro c rfl
    refine ⟨⟨hs.mt.size, hs.mt.defers, fun u x => ?_⟩, hs.sh⟩
    simp only [SEnv.get]
    cases hu : Nat.beq t u with
    | true =>
      have : t = u := Nat.eq_of_beq_eq_true hu
      subst this
      simp only [cond_true, Option.some.injEq]
      rintro rfl
      exact hs.mt.env t _ hb
    | false => simp only [cond_false]; exact hs.mt.env u x
  cases b with
  | true => exact ht rfl a w (key true rfl)
  | false => exact hf rfl a w (key false rfl)

end
end Fw
