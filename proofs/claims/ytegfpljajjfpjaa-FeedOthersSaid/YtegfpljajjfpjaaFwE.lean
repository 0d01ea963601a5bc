import Derived.Test.YtegfpljajjfpjaaFwD
import Derived.Laws.CopyRow
set_option linter.unusedVariables false
/-! ## 4. Entry, return, and operations that change the world -/
namespace Fw
open Go
section
variable {P : Program} {n : NN} {w0 : World} {F : List Asn} {s : SS} {Q : Exit → Act → World → Prop}

theorem fw_enter {f : FuncId} {fn : Func} {c : Code} {args : Array Value} {w : World} {R : Ending → World → Prop} {bs : List Nat} {env : SEnv} {H : List HE}
    (hf : P.funcs[f]? = some fn) (hb : fn.body = some c) (hn : args.size + (fn.ntmps - args.size) = n.n) (hlt : env.all (fun p => Nat.blt p.1 args.size) = true)
    (hv : env.map (fun p => p.2.den bs) = env.map (fun p => args.getD p.1 undef)) (hw : SH w0 w (hden bs H ++ F))
    (h : Rn P n w0 F c ⟨bs, env, H⟩ (bodyPost P fn R)) (hD : n.D = [] := by rfl) : Calls P f args w R := by
  refine calls_of_wp hf hb (h _ _ ⟨⟨by simpa using hn, hD.symm, fun t x hx => ?_⟩, hw⟩)
  have key : ∀ (e : SEnv), e.all (fun p => Nat.blt p.1 args.size) = true → e.map (fun p => p.2.den bs) = e.map (fun p => args.getD p.1 undef) → e.get t = some x → args[t]? = some (x.den bs) := by
    intro e
    induction e with
    | nil => intro _ _ h; simp [SEnv.get] at h
    | cons z e ih =>
      obtain ⟨i, y⟩ := z
      intro h1 h2 h3
      simp only [List.all_cons, Bool.and_eq_true, List.map_cons, List.cons.injEq] at h1 h2
      simp only [SEnv.get] at h3
      cases hi : Nat.beq i t with
      | true =>
        have : i = t := Nat.eq_of_beq_eq_true hi
        subst this
        simp only [hi, cond_true, Option.some.injEq] at h3
        subst h3
        have hlt : i < args.size := Nat.le_of_ble_eq_true h1.1
        rw [h2.1]
        simp [hlt]
      | false =>
        simp only [hi, cond_false] at h3
        exact ih h1.2 h2.2 h3
  have h1 := key env hlt hv hx
  have hts : t < args.size := (Array.getElem?_eq_some_iff.1 h1).1
  rw [Array.getElem?_append_left hts]
  exact h1

/-! ### The results -/
def resV (P : Program) (bs : List Nat) (H : List HE) (env : SEnv) : ResultVar → Option Value
  | .tmp t => (env.get t).map (SV.den bs)
  | .cell t T => match env.get t with
    | some (.p k off) => (loadS P bs H T k off).map (SV.den bs)
    | _ => none
def resVs (P : Program) (bs : List Nat) (H : List HE) (env : SEnv) : List ResultVar → Option (List Value)
  | [] => some []
  | r :: l => match resV P bs H env r, resVs P bs H env l with
    | some v, some vs => some (v :: vs)
    | _, _ => none
def oneOf : List Value → Value
  | [v] => v
  | vs => .tuple vs.toArray

theorem mapM_run {α β : Type} {w : World} (f : α → Sem β) : ∀ (l : List α) (vs : List β), (∀ (i : Nat) (x : α), l[i]? = some x → ∃ v, vs[i]? = some v ∧ (f x).run P w = .ok v w) → l.length = vs.length → (l.mapM f).run P w = .ok vs w
  | [], [], _, _ => by simp
  | x :: l, v :: vs, h, hl => by
    obtain ⟨v', hv', hr⟩ := h 0 x rfl
    simp only [List.getElem?_cons_zero, Option.some.injEq] at hv'
    subst hv'
    have ih := mapM_run f l vs (fun i y hy => by simpa using h (i + 1) y (by simpa using hy)) (by simpa using hl)
    simp [List.mapM_cons, hr, ih]
  | [], _ :: _, _, hl => by simp at hl
  | _ :: _, [], _, hl => by simp at hl

theorem resVs_spec {bs : List Nat} {H : List HE} {env : SEnv} : ∀ {l : List ResultVar} {vs : List Value}, resVs P bs H env l = some vs → l.length = vs.length ∧ ∀ (i : Nat) (r : ResultVar), l[i]? = some r → ∃ v, vs[i]? = some v ∧ resV P bs H env r = some v
  | [], vs, h => by simp [resVs] at h; subst h; simp
  | r :: l, vs, h => by
    simp only [resVs] at h
    split at h
    · rename_i v vs' h1 h2
      cases h
      obtain ⟨h3, h4⟩ := resVs_spec h2
      refine ⟨by simp [h3], fun i r' hr => ?_⟩
      cases i with
      | zero => simp only [List.getElem?_cons_zero, Option.some.injEq] at hr; subst hr; exact ⟨v, rfl, h1⟩
      | succ i => simpa using h4 i r' (by simpa using hr)
    · cases h

theorem fin_body {fn : Func} {R : Ending → World → Prop} {vs : List Value} (hr : resVs P s.bs s.heap s.env fn.results.toList = some vs)
    (hR : ∀ w, SH w0 w (hden s.bs s.heap ++ F) → R (.returned (oneOf vs)) w) (hD : n.D = []) : ∀ a w, St n w0 F s a w → a.defers = [] ∧ ∃ v, (results fn a.tmps).run P w = .ok v w ∧ R (.returned v) w := by
  intro a w hs
  refine ⟨hs.mt.defers.trans hD, oneOf vs, ?_, hR w hs.sh⟩
  obtain ⟨hl, hvs⟩ := resVs_spec hr
  have hm : (fn.results.mapM fun
      | .tmp t => pure (a.tmps.getD t undef)
      | .cell b t => do loadVar t (← asAddr (a.tmps.getD b undef)) : Sem (Array Value)).run P w = .ok vs.toArray w := by
    rw [← Array.toArray_toList (xs := fn.results), List.mapM_toArray]
    rw [Sem.run_map, mapM_run _ fn.results.toList vs (fun i r hi => ?_) hl]
    · rfl
    · obtain ⟨v, h1, h2⟩ := hvs i r hi
      refine ⟨v, h1, ?_⟩
      cases r with
      | tmp t =>
        simp only [resV, Option.map_eq_some_iff] at h2
        obtain ⟨x, hx, rfl⟩ := h2
        have := hs.mt.env t x hx
        simp [this]
      | cell t T =>
        simp only [resV] at h2
        split at h2
        · rename_i k off hk
          simp only [Option.map_eq_some_iff] at h2
          obtain ⟨x, hx, rfl⟩ := h2
          have h3 := hs.mt.env t _ hk
          have h4 := loadS_run hx hs.sh
          simp only [Instr.loadAt, Instr.sureAddr, SV.den, Sem.run_bind, Sem.run_pure, Result.andThen_ok] at h4
          simp only [Array.getD_eq_getD_getElem?, h3, Option.getD_some, SV.den, asAddr, Sem.run_bind, Sem.run_pure, Result.andThen_ok]
          exact h4
        · cases h2
  unfold results
  rw [Sem.run_bind]
  refine Eq.trans (congrArg (fun (r : Result (Array Value)) => r.andThen (fun (vs : Array Value) w' => Sem.run P (pure (if h : vs.size = 1 then vs[0] else Value.tuple vs)) w')) hm) ?_
  simp only [Result.andThen_ok, Sem.run_pure]
  congr 1
  match vs with
  | [] => rfl
  | [v] => rfl
  | v :: u :: l => simp [oneOf]

theorem fin_ret {fn : Func} {R : Ending → World → Prop} (vs : List Value) (hr : resVs P s.bs s.heap s.env fn.results.toList = some vs)
    (hR : ∀ w, SH w0 w (hden s.bs s.heap ++ F) → R (.returned (oneOf vs)) w) (hD : n.D = [] := by rfl) : Fin n w0 F s (bodyPost P fn R .ret) := fin_body hr hR hD
theorem fin_end {fn : Func} {R : Ending → World → Prop} (vs : List Value) (hr : resVs P s.bs s.heap s.env fn.results.toList = some vs)
    (hR : ∀ w, SH w0 w (hden s.bs s.heap ++ F) → R (.returned (oneOf vs)) w) (hD : n.D = [] := by rfl) : Fin n w0 F s (bodyPost P fn R .normal) := fin_body hr hR hD

theorem den_p (bs : List Nat) (k off : Nat) : SV.den bs (.p k off) = .pointer (some ⟨bs.getD k 0, off, none⟩) := rfl

/-! ### A store into known cells -/
def oneS : SV → Bool
  | .v (.agg _) => false
  | .v (.tuple _) => false
  | _ => true
def storeL (P : Program) (T : TypeId) (off : Nat) (y : SV) (cs : List SV) : Option (List SV) :=
  match P.underlying T, P.info? T with
  | some d, some i =>
    bif isAggD d then
      match y with
      | .v (.agg vs) => bif Nat.beq vs.size i.size && Nat.ble (off + i.size) cs.length && vs.toList.all (fun v => Value.oneCell' v) then some (cs.take off ++ vs.toList.map SV.v ++ cs.drop (off + i.size)) else none
      | _ => none
    else bif Nat.beq i.size 1 && Nat.blt off cs.length && oneS y then some (cs.take off ++ [y] ++ cs.drop (off + 1)) else none
  | _, _ => none
def storeS (P : Program) (T : TypeId) (k off : Nat) (y : SV) : List HE → Option (List HE)
  | [] => none
  | .a A :: H => (storeS P T k off y H).map (.a A :: ·)
  | .c k' cs U :: H => bif Nat.beq k' k then (storeL P T off y cs).map (fun cs' => .c k' cs' U :: H) else (storeS P T k off y H).map (.c k' cs U :: ·)

theorem storeS_spec {bs : List Nat} {T : TypeId} {k off : Nat} {y : SV} : ∀ {H H' : List HE}, storeS P T k off y H = some H' → ∃ L1 L2 cs cs' U, hden bs H = L1 ++ cellsA (bs.getD k 0) (cs.map (SV.den bs)) U :: L2 ∧ hden bs H' = L1 ++ cellsA (bs.getD k 0) (cs'.map (SV.den bs)) U :: L2 ∧ storeL P T off y cs = some cs'
  | [], _, h => by simp [storeS] at h
  | .a A :: H, H', h => by
    simp only [storeS, Option.map_eq_some_iff] at h
    obtain ⟨H1, h1, rfl⟩ := h
    obtain ⟨L1, L2, cs, cs', U, e1, e2, e3⟩ := storeS_spec (bs := bs) h1
    exact ⟨A :: L1, L2, cs, cs', U, by simp only [hden, List.map_cons] at *; rw [e1]; rfl, by simp only [hden, List.map_cons] at *; rw [e2]; rfl, e3⟩
  | .c k' cs0 U0 :: H, H', h => by
    simp only [storeS] at h
    cases hk : Nat.beq k' k with
    | true =>
      simp only [hk, cond_true, Option.map_eq_some_iff] at h
      obtain ⟨cs1, h1, rfl⟩ := h
      have : k' = k := Nat.eq_of_beq_eq_true hk
      subst this
      exact ⟨[], hden bs H, cs0, cs1, U0, rfl, rfl, h1⟩
    | false =>
      simp only [hk, cond_false, Option.map_eq_some_iff] at h
      obtain ⟨H1, h1, rfl⟩ := h
      obtain ⟨L1, L2, cs, cs', U, e1, e2, e3⟩ := storeS_spec (bs := bs) h1
      exact ⟨HE.den bs (.c k' cs0 U0) :: L1, L2, cs, cs', U, by simp only [hden, List.map_cons] at *; rw [e1]; rfl, by simp only [hden, List.map_cons] at *; rw [e2]; rfl, e3⟩

theorem SH.setMid {w w' : World} {b : Nat} {o o' : Obj} {L1 L2 : List Asn} (h : SH w0 w (L1 ++ objA b o :: L2)) (hos : w'.os = w.os) (ht : w'.tape = w.tape) (hout : w'.output = w.output)
    (hb : w'.heap[b]? = some o') (hk : ∀ k, k ≠ b → w'.heap[k]? = w.heap[k]?) : SH w0 w' (L1 ++ objA b o' :: L2) :=
  ((h.perm List.perm_middle).set hos ht hout hb hk).perm List.perm_middle.symm

theorem run_storeAt {w : World} {T U : TypeId} {b off : Nat} {v : Value} {i : TypeInfo} {cs : List Value} (hi : P.info? T = some i) (hsz : v.cells.size = i.size) (hb : w.heap[b]? = some (.cells cs.toArray U (0, 0)))
    (hle : off + i.size ≤ cs.length) (h1 : ∀ u ∈ v.cells.toList, u.oneCell' = true) :
    (Instr.storeAt T (.pointer (some ⟨b, off, none⟩)) v).run P w = .ok () (w.setRow b (cs.take off ++ v.cells.toList ++ cs.drop (off + i.size)).toArray) := by
  have h2 := run_storeCells_at P b off U v.cells.toList 0 cs.toArray w hb (by simp only [Array.length_toList, hsz, List.size_toArray]; omega) h1
  have h3 : (Go.sizeOf T).run P w = .ok i.size w := by simp [Go.sizeOf, typeInfo, hi]
  simp only [Instr.storeAt, Instr.sureAddr, storeVar, Sem.run_bind, Sem.run_pure, Result.andThen_ok, h3]
  rw [if_neg (by simp [hsz])]
  simp only [h2]
  simp [hsz]

theorem op_store {ops : Array Oper} {i : Nat} {K : Act → World → Prop} (T : TypeId) (x y : Operand) (k off : Nat) (yv : SV) (H' : List HE)
    (ho : opAt ops s.env i = some (.store T x y, none, some true)) (hx : opdE s.env x = some (.p k off)) (hy : opdE s.env y = some yv) (hH : storeS P T k off yv s.heap = some H')
    (h : Fin n w0 F { s with heap := H' } K) : Rop P n w0 F ops Q i s K := by
  refine rop_of ho fun o a w h1 h2 hs => ?_
  obtain ⟨L1, L2, cs, cs', U, e1, e2, e3⟩ := storeS_spec (bs := s.bs) hH
  have hw := hs.sh
  rw [e1, List.append_assoc, List.cons_append] at hw
  have hb : w.heap[s.bs.getD k 0]? = some (.cells (cs.map (SV.den s.bs)).toArray U (0, 0)) := SH.mem (List.mem_append_right _ List.mem_cons_self) hw
  unfold storeL at e3
  cases hu : P.underlying T with
  | none => simp [hu] at e3
  | some d =>
    cases hi : P.info? T with
    | none => simp [hu, hi] at e3
    | some ti =>
      simp only [hu, hi] at e3
      have main : ∀ (vs : List Value), (yv.den s.bs).cells.toList = vs → (yv.den s.bs).cells.size = ti.size → off + ti.size ≤ cs.length → (∀ u ∈ vs, u.oneCell' = true) →
          cs'.map (SV.den s.bs) = (cs.map (SV.den s.bs)).take off ++ vs ++ (cs.map (SV.den s.bs)).drop (off + ti.size) → o.wp P a w K Q := by
        intro vs hvs hsz hle h1' hcs
        have hr := run_storeAt (P := P) (T := T) (off := off) (v := yv.den s.bs) hi hsz hb (by simpa using hle) (by rw [hvs]; exact h1')
        rw [hvs, ← hcs] at hr
        refine opwp_skip (w' := w.setRow (s.bs.getD k 0) (cs'.map (SV.den s.bs)).toArray) ?_ (h _ _ ⟨?_, ?_⟩)
        · simp only [execOp, h1, hs.mt.opd hx, hs.mt.opd hy, den_p, Sem.run_bind, hr, Result.andThen_ok, Sem.run_pure]
        · rw [h2]; exact hs.mt
        · show SH w0 _ (hden s.bs H' ++ F)
          rw [e2, List.append_assoc, List.cons_append]
          exact SH.setMid hw rfl rfl rfl (setRow_heap w _ _ _ U _ hb) (fun k' hk' => setRow_other w _ k' _ hk')
      cases hd : isAggD d with
      | true =>
        simp only [hd, cond_true] at e3
        split at e3
        · rename_i vs
          cases hc : (Nat.beq vs.size ti.size && Nat.ble (off + ti.size) cs.length && vs.toList.all (fun v => Value.oneCell' v)) with
          | false => simp only [hc, cond_false] at e3; cases e3
          | true =>
            simp only [hc, cond_true, Option.some.injEq] at e3
            simp only [Bool.and_eq_true] at hc
            obtain ⟨⟨c1, c2⟩, c3⟩ := hc
            subst e3
            refine main vs.toList rfl (Nat.eq_of_beq_eq_true c1) (Nat.le_of_ble_eq_true c2) (fun u hu => List.all_eq_true.1 c3 u hu) ?_
            simp only [List.map_append, List.map_map, List.map_take, List.map_drop]
            congr 2
            exact (List.map_congr_left (fun v _ => rfl)).trans (List.map_id _)
        · cases e3
      | false =>
        simp only [hd, cond_false] at e3
        cases hc : (Nat.beq ti.size 1 && Nat.blt off cs.length && oneS yv) with
        | false => simp only [hc, cond_false] at e3; cases e3
        | true =>
          simp only [hc, cond_true, Option.some.injEq] at e3
          simp only [Bool.and_eq_true] at hc
          obtain ⟨⟨c1, c2⟩, c3⟩ := hc
          have c1' : ti.size = 1 := Nat.eq_of_beq_eq_true c1
          have c2' : off + 1 ≤ cs.length := Nat.le_of_ble_eq_true c2
          subst e3
          have hone : (yv.den s.bs).cells = #[yv.den s.bs] ∧ (yv.den s.bs).oneCell' = true := by
            cases yv with
            | v x => cases x <;> first | (simp [oneS] at c3; done) | exact ⟨rfl, rfl⟩
            | p k off => exact ⟨rfl, rfl⟩
          refine main [yv.den s.bs] (by rw [hone.1]) (by rw [hone.1, c1']; rfl) (by rw [c1']; exact c2') (fun u hu => by simp at hu; subst hu; exact hone.2) ?_
          rw [c1']
          simp
end
end Fw
