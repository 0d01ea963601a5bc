import Derived.Test.YtegfpljajjfpjaaFwG
set_option linter.unusedVariables false
/-! ## 6. Calls, new memory, loops, joins -/
namespace Fw
open Go
section
variable {P : Program} {n : NN} {w0 : World} {F : List Asn} {s : SS} {Q : Exit → Act → World → Prop}

theorem op_call {ops : Array Oper} {i : Nat} {K : Act → World → Prop} {f : FuncId} {xs : Array Operand} {ats : Array TypeId} {d : Option Tmp} {args : Array Value}
    (ho : opAt ops s.env i = some (.call { callee := .value (.func f), args := xs, argTypes := ats }, d, some true)) (hk : xs.all (fun x => (opdE s.env x).isSome) = true)
    (hargs : #[] ++ xs.map (evE s.bs s.env) ++ #[] = args) (hf : pureRun P (callFunc f args) = some (.enter f args))
    (hc : ∀ w, SH w0 w (hden s.bs s.heap ++ F) → Calls P f args w (fun e w' => ∃ v bs' H' env', e = .returned v ∧ SH w0 w' (hden bs' H' ++ F) ∧ putE n s.env d (.v v) = some env' ∧ (∀ a, Mt n s.bs env' a → Mt n bs' env' a) ∧ Fin n w0 F ⟨bs', env', H'⟩ K)) :
    Rop P n w0 F ops Q i s K := by
  refine rop_of ho fun o a w h1 h2 hs => ?_
  have hmap : xs.map a.eval = xs.map (evE s.bs s.env) := Array.map_congr_left fun x hx => hs.mt.ev (Array.all_eq_true_iff_forall_mem.1 hk x hx)
  have he : execOp a.eval o = callFunc f args := by
    rw [← hargs, ← hmap]
    obtain ⟨dst, op, ty, pos, after, guard⟩ := o
    simp only at h1
    subst h1
    rfl
  unfold Oper.wp
  rw [he, pureRun_run hf w]
  simp only [Oper.upon]
  refine (hc w hs.sh).mono fun e w' hr => ?_
  obtain ⟨v, bs', H', env', rfl, hsh, hp, hmt, hfin⟩ := hr
  exact hfin _ _ ⟨hmt _ (by rw [h2]; exact hs.mt.put hp), hsh⟩

theorem mt_same {bs : List Nat} {env : SEnv} : ∀ a, Mt n bs env a → Mt n bs env a := fun _ h => h

/-! ### New blocks -/
theorem run_newVar {w : World} {T : TypeId} {v : Value} : (newVar T v).run P w = .ok ⟨w.heap.size, 0, none⟩ { w with heap := w.heap.push (.cells v.cells T) } := by
  simp [newVar, newRow]

theorem op_box {ops : Array Oper} {i : Nat} {K : Act → World → Prop} (T : TypeId) (x : Operand) (xv : SV) (d : Tmp) (cs : List SV) (bsf : Nat → List Nat) (Hf : Nat → List HE)
    (ho : opAt ops s.env i = some (.box T x, some d, some true)) (hx : opdE s.env x = some xv) (hd : Nat.blt d n.n = true)
    (hcs : (xv.den s.bs).cells.toList = cs.map (SV.den s.bs)) (k : Nat)
    (hbs : ∀ b, (bsf b).getD k 0 = b) (hmt : ∀ b a, Mt n s.bs s.env a → Mt n (bsf b) s.env a) (hH : ∀ b, hden (bsf b) (Hf b) = cellsA b (cs.map (SV.den s.bs)) T :: hden s.bs s.heap)
    (h : ∀ b, Fin n w0 F ⟨bsf b, (d, .p k 0) :: s.env, Hf b⟩ K) : Rop P n w0 F ops Q i s K := by
  refine rop_of ho fun o a w h1 h2 hs => ?_
  have hev := hs.mt.opd hx
  refine opwp_value (v := .pointer (some ⟨w.heap.size, 0, none⟩)) (w' := { w with heap := w.heap.push (.cells (xv.den s.bs).cells T) }) ?_ (h w.heap.size _ _ ⟨?_, ?_⟩)
  · simp [execOp, h1, Instr.box, hev, run_newVar]
  · have h3 := (hmt w.heap.size a hs.mt).put (dst := some d) (x := .p k 0) (env' := (d, .p k 0) :: s.env) (by simp only [putE, hd, cond_true])
    rw [h2]
    simpa only [den_p, hbs] using h3
  · show SH w0 _ (hden (bsf w.heap.size) (Hf w.heap.size) ++ F)
    rw [hH]
    refine hs.sh.new rfl rfl rfl ?_
    rw [← hcs]

theorem op_alloc {ops : Array Oper} {i : Nat} {K : Act → World → Prop} (T : TypeId) (d : Tmp) (z : Value) (cs : List SV) (bsf : Nat → List Nat) (Hf : Nat → List HE)
    (ho : opAt ops s.env i = some (.alloc T, some d, some true)) (hd : Nat.blt d n.n = true) (hz : (P.info? T).map (·.zero) = some (some z))
    (hcs : z.cells.toList = cs.map (SV.den s.bs)) (k : Nat)
    (hbs : ∀ b, (bsf b).getD k 0 = b) (hmt : ∀ b a, Mt n s.bs s.env a → Mt n (bsf b) s.env a) (hH : ∀ b, hden (bsf b) (Hf b) = cellsA b (cs.map (SV.den s.bs)) T :: hden s.bs s.heap)
    (h : ∀ b, Fin n w0 F ⟨bsf b, (d, .p k 0) :: s.env, Hf b⟩ K) : Rop P n w0 F ops Q i s K := by
  refine rop_of ho fun o a w h1 h2 hs => ?_
  obtain ⟨ti, hti, hz'⟩ := Option.map_eq_some_iff.1 hz
  refine opwp_value (v := .pointer (some ⟨w.heap.size, 0, none⟩)) (w' := { w with heap := w.heap.push (.cells z.cells T) }) ?_ (h w.heap.size _ _ ⟨?_, ?_⟩)
  · simp [execOp, h1, Instr.alloc, zeroValue, typeInfo, hti, hz', run_newVar]
  · have h3 := (hmt w.heap.size a hs.mt).put (dst := some d) (x := .p k 0) (env' := (d, .p k 0) :: s.env) (by simp only [putE, hd, cond_true])
    rw [h2]
    simpa only [den_p, hbs] using h3
  · show SH w0 _ (hden (bsf w.heap.size) (Hf w.heap.size) ++ F)
    rw [hH]
    refine hs.sh.new rfl rfl rfl ?_
    rw [← hcs]

/-- The table of blocks may be written otherwise where what is known of the frame stays. -/
theorem mt_bs {bs bs' : List Nat} {env : SEnv} (h : env.map (fun p => p.2.den bs) = env.map (fun p => p.2.den bs')) : ∀ a, Mt n bs env a → Mt n bs' env a := by
  intro a hm
  refine ⟨hm.size, hm.defers, fun t x hx => ?_⟩
  rw [hm.env t x hx]
  congr 1
  have key : ∀ (e : SEnv), e.map (fun p => p.2.den bs) = e.map (fun p => p.2.den bs') → e.get t = some x → x.den bs = x.den bs' := by
    intro e
    induction e with
    | nil => intro _ h; simp [SEnv.get] at h
    | cons z e ih =>
      obtain ⟨i, y⟩ := z
      intro h1 h2
      simp only [List.map_cons, List.cons.injEq] at h1
      simp only [SEnv.get] at h2
      cases hi : Nat.beq i t with
      | true => simp only [hi, cond_true, Option.some.injEq] at h2; subst h2; exact h1.1
      | false => simp only [hi, cond_false] at h2; exact ih h1.2 h2
  exact key env h hx

/-! ### Loops and joins -/
theorem rn_loop {V : Type} {c : Code} (J : Nat → V → Prop) (sv : V → SS) (k0 : Nat) (v0 : V) (h0 : J k0 v0) (hs0 : ∀ a w, St n w0 F s a w → St n w0 F (sv v0) a w)
    (body : ∀ k v, J k v → Rn P n w0 F c (sv v) (Exit.then (fun a w => ∃ k' v', k' < k ∧ J k' v' ∧ St n w0 F (sv v') a w) Q)) : Rn P n w0 F (.loop c) s Q := by
  intro a w hs
  have key : ∀ k v a w, J k v → St n w0 F (sv v) a w → ∀ (b : Frame) (todo : List Item) (cs : List Frame), ∃ e a' w', Q e a' w' ∧ Arrives P (lone (b.at a (.code c :: .inLoop c :: todo)) cs w) b todo cs e a' w' := by
    intro k
    induction k using Nat.strongRecOn with
    | _ k ih =>
      intro v a w hJ hs b todo cs
      obtain ⟨e, a₁, w₁, hq, harr⟩ := body k v hJ a w hs b (.inLoop c :: todo) cs
      cases e with
      | normal =>
        obtain ⟨k', v', hlt, hJ', hs'⟩ := hq
        obtain ⟨e₂, a₂, w₂, hq₂, harr₂⟩ := ih k' hlt v' a₁ w₁ hJ' hs' b todo cs
        exact ⟨e₂, a₂, w₂, hq₂, .of_steps (Steps.trans harr (.one step_inLoop)) harr₂⟩
      | exit id => exact ⟨_, a₁, w₁, hq, .pass (x := .inLoop c) rfl (fun _ _ => .inl (by simp)) harr⟩
      | goto l => exact ⟨_, a₁, w₁, hq, .pass (x := .inLoop c) rfl (fun _ _ => .inl (by simp)) harr⟩
      | ret => exact ⟨_, a₁, w₁, hq, .pass (x := .inLoop c) rfl (fun _ _ => .inl (by simp)) harr⟩
      | panic ch => exact ⟨_, a₁, w₁, hq, .pass (x := .inLoop c) rfl (fun _ _ => .inl (by simp)) harr⟩
      | outgrown => exact ⟨_, a₁, w₁, hq, .pass (x := .inLoop c) rfl (fun _ _ => .inl (by simp)) harr⟩
  intro b todo cs
  obtain ⟨e, a', w', hq, harr⟩ := key k0 v0 a w h0 (hs0 a w hs) b todo cs
  exact ⟨e, a', w', hq, .of_steps (.one step_loop) harr⟩

theorem rn_join {V : Type} {x y : Code} (J : V → Prop) (sv : V → SS) (hx : Rn P n w0 F x s (Exit.then (fun a w => ∃ v, J v ∧ St n w0 F (sv v) a w) Q)) (hy : ∀ v, J v → Rn P n w0 F y (sv v) Q) :
    Rn P n w0 F (.seq x y) s Q := fun a w hs => wp_seq (wp_mono (hx a w hs) fun e a' w' hq => by
      cases e with
      | normal => obtain ⟨v, hJ, hs'⟩ := hq; exact hy v hJ a' w' hs'
      | _ => exact hq)

theorem fin_conv {K : Act → World → Prop} (s' : SS) (is : List Nat) (R : List Asn) (he : s'.env.all (fun p => (s.env.get p.1).isSome) = true)
    (hv : s'.env.map (fun p => p.2.den s'.bs) = s'.env.map (fun p => match s.env.get p.1 with | some x => x.den s.bs | none => undef))
    (hh : picked is (hden s.bs s.heap) = hden s'.bs s'.heap ++ R) (h : Fin n w0 F s' K) : Fin n w0 F s K := fun a w hs => h a w (hs.conv is he hv ⟨R, hh⟩)
theorem fin_join {V : Type} {J : V → Prop} {sv : V → SS} (v : V) (hJ : J v) (is : List Nat) (R : List Asn) (he : (sv v).env.all (fun p => (s.env.get p.1).isSome) = true)
    (hv : (sv v).env.map (fun p => p.2.den (sv v).bs) = (sv v).env.map (fun p => match s.env.get p.1 with | some x => x.den s.bs | none => undef))
    (hh : picked is (hden s.bs s.heap) = hden (sv v).bs (sv v).heap ++ R) : Fin n w0 F s (fun a w => ∃ v, J v ∧ St n w0 F (sv v) a w) := fun _ _ hs => ⟨v, hJ, hs.conv is he hv ⟨R, hh⟩⟩
theorem fin_loop {V : Type} {J : Nat → V → Prop} {sv : V → SS} {k : Nat} (v : V) (hJ : J k v) (is : List Nat) (R : List Asn) (he : (sv v).env.all (fun p => (s.env.get p.1).isSome) = true)
    (hv : (sv v).env.map (fun p => p.2.den (sv v).bs) = (sv v).env.map (fun p => match s.env.get p.1 with | some x => x.den s.bs | none => undef))
    (hh : picked is (hden s.bs s.heap) = hden (sv v).bs (sv v).heap ++ R) : Fin n w0 F s (fun a w => ∃ k' v', k' < k + 1 ∧ J k' v' ∧ St n w0 F (sv v') a w) := fun _ _ hs => ⟨k, v, Nat.lt_succ_self k, hJ, hs.conv is he hv ⟨R, hh⟩⟩
end

theorem nt_of_f {b : Bool} (h : b = false) : ¬ b = true := by rw [h]; exact Bool.false_ne_true
theorem nb_t {b : Bool} (h : (!b) = true) : b = false := by cases b; rfl; cases h
theorem nb_f {b : Bool} (h : (!b) = false) : b = true := by cases b; cases h; rfl
theorem eq_t {x y : Int} (h : (x == y) = true) : x = y := eq_of_beq h
theorem eq_f {x y : Int} (h : (x == y) = false) : ¬ x = y := ne_of_beq_false h
theorem ne_t {x y : Int} (h : (x != y) = true) : ¬ x = y := by simpa using h
theorem ne_f {x y : Int} (h : (x != y) = false) : x = y := by simpa using h
end Fw
