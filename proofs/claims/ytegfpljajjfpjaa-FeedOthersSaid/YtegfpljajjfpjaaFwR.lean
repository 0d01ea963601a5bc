import Derived.Test.YtegfpljajjfpjaaFwQ
set_option linter.unusedVariables false
/-! ## 16. Function values, loops unrolled, slices with a limit -/
namespace Fw
open Go
def smEt (x : Value) (i : Nat) : Sem Next := do pure (.value (← Instr.extract x i))
def smTa (x : Value) (t1 t2 : TypeId) (ok : Bool) : Sem Next := do pure (.value (← Instr.typeAssert x t1 t2 ok))
section
variable {P : Program} {n : NN} {w0 : World} {F : List Asn} {s : SS} {Q : Exit → Act → World → Prop}
/-- A call of a function value. -/
theorem op_callv {ops : Array Oper} {i : Nat} {K : Act → World → Prop} {x : Operand} {f : FuncId} {first caps : Array Value} {xs : Array Operand} {ats : Array TypeId} {d : Option Tmp} {args : Array Value}
    (ho : opAt ops s.env i = some (.call { callee := .value x, args := xs, argTypes := ats }, d, some true)) (hx : opdE s.env x = some (.v (.func (.func f) first caps))) (hk : xs.all (fun x => (opdE s.env x).isSome) = true)
    (hargs : first ++ xs.map (evE s.bs s.env) ++ caps = args) (hf : pureRun P (callFunc f args) = some (.enter f args))
    (hc : ∀ w, SH w0 w (hden s.bs s.heap ++ F) → Calls P f args w (fun e w' => ∃ v bs' H' env' env'', e = .returned v ∧ SH w0 w' (hden bs' H' ++ F) ∧ putE n s.env d (.v v) = some env' ∧ (∀ a, Mt n s.bs env' a → Mt n bs' env'' a) ∧ Fin n w0 F ⟨bs', env'', H'⟩ K)) :
    Rop P n w0 F ops Q i s K := by
  refine rop_of ho fun o a w h1 h2 hs => ?_
  have hmap : xs.map a.eval = xs.map (evE s.bs s.env) := Array.map_congr_left fun x hx => hs.mt.ev (Array.all_eq_true_iff_forall_mem.1 hk x hx)
  have he : execOp a.eval o = callFunc f args := by
    rw [← hargs, ← hmap]
    have hxe : a.eval x = .func (.func f) first caps := hs.mt.opd hx
    obtain ⟨dst, op, ty, pos, after, guard⟩ := o
    simp only at h1
    subst h1
    simp only [execOp, resolve, hxe]
    rfl
  unfold Oper.wp
  rw [he, pureRun_run hf w]
  simp only [Oper.upon]
  refine (hc w hs.sh).mono fun e w' hr => ?_
  obtain ⟨v, bs', H', env', env'', rfl, hsh, hp, hmt, hfin⟩ := hr
  exact hfin _ _ ⟨hmt _ (by rw [h2]; exact hs.mt.put hp), hsh⟩

/-! ### Loops unrolled -/
def LoopW (P : Program) (c : Code) (Q : Exit → Act → World → Prop) (a : Act) (w : World) : Prop :=
  ∀ (b : Frame) (todo : List Item) (cs : List Frame), ∃ e a' w', Q e a' w' ∧ Arrives P (lone (b.at a (.code c :: .inLoop c :: todo)) cs w) b todo cs e a' w'
theorem loopW_of {c : Code} {a : Act} {w : World} (h : c.wp P (Exit.then (LoopW P c Q) Q) a w) : LoopW P c Q a w := by
  intro b todo cs
  obtain ⟨e, a₁, w₁, hq, harr⟩ := h b (.inLoop c :: todo) cs
  cases e with
  | normal =>
    obtain ⟨e₂, a₂, w₂, hq₂, harr₂⟩ := hq b todo cs
    exact ⟨e₂, a₂, w₂, hq₂, .of_steps (Steps.trans harr (.one step_inLoop)) harr₂⟩
  | exit id => exact ⟨_, a₁, w₁, hq, .pass (x := .inLoop c) rfl (fun _ _ => .inl (by simp)) harr⟩
  | goto l => exact ⟨_, a₁, w₁, hq, .pass (x := .inLoop c) rfl (fun _ _ => .inl (by simp)) harr⟩
  | ret => exact ⟨_, a₁, w₁, hq, .pass (x := .inLoop c) rfl (fun _ _ => .inl (by simp)) harr⟩
  | panic ch => exact ⟨_, a₁, w₁, hq, .pass (x := .inLoop c) rfl (fun _ _ => .inl (by simp)) harr⟩
  | outgrown => exact ⟨_, a₁, w₁, hq, .pass (x := .inLoop c) rfl (fun _ _ => .inl (by simp)) harr⟩
theorem rn_loop_un {c : Code} (h : Rn P n w0 F c s (Exit.then (LoopW P c Q) Q)) : Rn P n w0 F (.loop c) s Q := by
  intro a w hs b todo cs
  obtain ⟨e, a', w', hq, harr⟩ := loopW_of (h a w hs) b todo cs
  exact ⟨e, a', w', hq, .of_steps (.one step_loop) harr⟩
theorem fin_loop_un {c : Code} (h : Rn P n w0 F c s (Exit.then (LoopW P c Q) Q)) : Fin n w0 F s (Exit.then (LoopW P c Q) Q .normal) := fun a w hs => loopW_of (h a w hs)

/-! ### Slices with a limit, which is where they end -/
def slp3 (A : Option Addr) (lo hi : Int) (sz : Nat) : Option Addr := if hi.toNat = lo.toNat then A else A.map (·.add (lo.toNat * sz))
variable {α : Type} {E : Enc α} {A : Option Addr} {c : Nat} {l r : List α} {lo hi : Int}
theorem RowT.lsl3 {Ls : List Asn} (hR : RowT w0 Ls E A c l) (h : Fw.lsl l lo hi = some r) {sz : Nat} (hs : sz = E.sz) : RowT w0 Ls E (slp3 A lo hi sz) (hi.toNat - lo.toNat) r := fun F' w hw => by
  subst hs
  obtain ⟨h1, h2⟩ := hR F' w hw
  obtain ⟨g1, g2, g3, g4, g5⟩ := lsl_spec h
  refine ⟨by rw [g5]; omega, fun j v hv => ?_⟩
  obtain ⟨a, rfl, hc⟩ := h2 _ _ (cellsL_lsl h hv)
  unfold slp3
  split
  · rename_i e
    have : r.length = 0 := by rw [g5]; omega
    rw [List.length_eq_zero_iff.1 this] at hv
    simp [cellsL] at hv
  · exact ⟨_, rfl, by rw [add_add]; exact hc⟩
theorem run_lsl3 {T U : TypeId} {sz : Nat} (hT : P.underlying T = some (.slice U)) (hU : (P.info? U).map (·.size) = some sz) (hlc : l.length ≤ c) (h : lsl l lo hi = some r) (w : World) (olo : Option Value) {k k' : IntKind}
    (hlo : (∃ k, olo = some (.int k lo)) ∨ olo = none ∧ lo = 0) :
    (Instr.sliceAt T (.slice A l.length c) olo (some (.int k hi)) (some (.int k' hi))).run P w = .ok (.slice (slp3 A lo hi sz) r.length (hi.toNat - lo.toNat)) w := by
  obtain ⟨g1, g2, g3, g4, g5⟩ := lsl_spec h
  have h2 : (underlying T).run P w = .ok (.slice U) w := by simp [underlying, hT]
  obtain ⟨ti, hti, rfl⟩ := Option.map_eq_some_iff.1 hU
  have h3 : (Go.sizeOf U).run P w = .ok ti.size w := by simp [Go.sizeOf, typeInfo, hti]
  have e2 : ((hi.toNat : Nat) : Int) = hi := by omega
  have g6 : hi ≤ (c : Int) := by omega
  have g7 : 0 ≤ hi := by omega
  have g8 : hi ≤ hi := by omega
  rw [g5]
  rcases hlo with ⟨k, rfl⟩ | ⟨rfl, rfl⟩ <;>
    simp [Instr.sliceAt, Instr.slice, Instr.sliceBounds, Instr.sliceBound, asIntOf, h2, h3, slp3, g1, g2, g6, g7, e2]
theorem ob_lsl3 {Ls : List Asn} {T U : TypeId} {sz : Nat} (olo : Option Value) {k k' : IntKind} (hT : P.underlying T = some (.slice U)) (hU : (P.info? U).map (·.size) = some sz) (hR : RowT w0 Ls E A c l) (h : lsl l lo hi = some r)
    (hlo : (∃ k, olo = some (.int k lo)) ∨ olo = none ∧ lo = 0) :
    obOk P w0 Ls (smSl T (.slice A l.length c) olo (some (.int k hi)) (some (.int k' hi)), .slice (slp3 A lo hi sz) r.length (hi.toNat - lo.toNat)) := fun F' w hw => by
  simp [smSl, run_lsl3 (A := A) hT hU (hR F' w hw).1 h w olo hlo]
theorem SH.sub3 {w : World} {U : TypeId} {sz : Nat} {R : List Asn} (hr : lsl l lo hi = some r) (hs : sz = E.sz) (h : SH w0 w (slA U E A c l :: R)) : SH w0 w (slA U E (slp3 A lo hi sz) (hi.toNat - lo.toNat) r :: R) := by
  subst hs
  obtain ⟨g1, g2, g3, g4, g5⟩ := lsl_spec hr
  obtain ⟨S, hS, hX, hrest⟩ := h.sat
  refine ⟨h.os, h.tape, h.output, S, ?_, hX, hrest⟩
  rcases hS with ⟨rfl, rfl, rfl, hn⟩ | ⟨g, off, cs, rfl, hg, q3, q4, q5, q6, q7⟩
  · simp only [List.length_nil] at g3
    refine .inl ⟨?_, ?_, by omega, hn⟩
    · unfold slp3; split <;> rfl
    · rw [g4]; simp
  · by_cases hc : hi.toNat = lo.toNat
    · refine .inr ⟨g, off, cs, by unfold slp3; rw [if_pos hc], hg, by rw [g5]; omega, by omega, by rw [hc]; simp only [Nat.sub_self, Nat.zero_mul]; omega, fun j v hv => ?_, q7⟩
      have : r.length = 0 := by rw [g5]; omega
      rw [List.length_eq_zero_iff.1 this] at hv
      simp [cellsL] at hv
    · refine .inr ⟨g, off + lo.toNat * E.sz, cs, by unfold slp3; rw [if_neg hc]; simp only [Option.map_some, add_lit], hg, by rw [g5]; omega, by omega, ?_, fun j v hv => ?_, q7⟩
      · have e1 : lo.toNat * E.sz + (hi.toNat - lo.toNat) * E.sz = hi.toNat * E.sz := by rw [← Nat.add_mul]; congr 1; omega
        have e2 : hi.toNat * E.sz ≤ c * E.sz := Nat.mul_le_mul_right _ (by omega)
        omega
      · rw [Nat.add_assoc]
        exact q6 _ v (cellsL_lsl hr hv)
theorem st_sub3 (U : TypeId) {sz : Nat} {L : List α} (j : Nat) (H : List HE) (hr : lsl L lo hi = some r) (hs : sz = E.sz) (hp : picked [j] (hden s.bs s.heap) = slA U E A c L :: hden s.bs H) {a : Act} {w : World} (h : St n w0 F s a w) :
    St n w0 F ⟨s.bs, s.env, .a (slA U E (slp3 A lo hi sz) (hi.toNat - lo.toNat) r) :: H⟩ a w := by
  refine ⟨h.mt, ?_⟩
  have h3 : SH w0 w (slA U E A c L :: (hden s.bs H ++ F)) := by
    have := h.sh.perm ((picked_perm [j] _).append_right F)
    rw [hp] at this
    exact this
  exact SH.sub3 hr hs h3
end
section
variable {α : Type} {P : Program} {n : NN} {w0 : World} {F : List Asn} {s : SS} {Q : Exit → Act → World → Prop}
theorem fin_sub3 (U : TypeId) (E : Enc α) (A : Option Addr) (c sz : Nat) (L : List α) {r : List α} {lo hi : Int} (j : Nat) (H : List HE) {K : Act → World → Prop} (hr : lsl L lo hi = some r) (hs : sz = E.sz) (hp : picked [j] (hden s.bs s.heap) = slA U E A c L :: hden s.bs H)
    (h : Fin n w0 F ⟨s.bs, s.env, .a (slA U E (slp3 A lo hi sz) (hi.toNat - lo.toNat) r) :: H⟩ K) : Fin n w0 F s K := fun a w hs' => h a w (st_sub3 U j H hr hs hp hs')
theorem rn_sub3 (U : TypeId) (E : Enc α) (A : Option Addr) (c sz : Nat) (L : List α) {r : List α} {lo hi : Int} (j : Nat) (H : List HE) {k : Code} (hr : lsl L lo hi = some r) (hs : sz = E.sz) (hp : picked [j] (hden s.bs s.heap) = slA U E A c L :: hden s.bs H)
    (h : Rn P n w0 F k ⟨s.bs, s.env, .a (slA U E (slp3 A lo hi sz) (hi.toNat - lo.toNat) r) :: H⟩ Q) : Rn P n w0 F k s Q := fun a w hs' => h a w (st_sub3 U j H hr hs hp hs')
theorem ro_sub3 (U : TypeId) (E : Enc α) (A : Option Addr) (c sz : Nat) (L : List α) {r : List α} {lo hi : Int} (j : Nat) (H : List HE) {ops : Array Oper} {i : Nat} (hr : lsl L lo hi = some r) (hs : sz = E.sz) (hp : picked [j] (hden s.bs s.heap) = slA U E A c L :: hden s.bs H)
    (h : Ro P n w0 F ops i ⟨s.bs, s.env, .a (slA U E (slp3 A lo hi sz) (hi.toNat - lo.toNat) r) :: H⟩ Q) : Ro P n w0 F ops i s Q := fun a w hs' => h a w (st_sub3 U j H hr hs hp hs')
theorem rop_sub3 (U : TypeId) (E : Enc α) (A : Option Addr) (c sz : Nat) (L : List α) {r : List α} {lo hi : Int} (j : Nat) (H : List HE) {ops : Array Oper} {i : Nat} {K : Act → World → Prop} (hr : lsl L lo hi = some r) (hs : sz = E.sz) (hp : picked [j] (hden s.bs s.heap) = slA U E A c L :: hden s.bs H)
    (h : Rop P n w0 F ops Q i ⟨s.bs, s.env, .a (slA U E (slp3 A lo hi sz) (hi.toNat - lo.toNat) r) :: H⟩ K) : Rop P n w0 F ops Q i s K := fun a w hs' => h a w (st_sub3 U j H hr hs hp hs')
/-- Append to what has no room: what was there stays. -/
theorem appfull_run {E : Enc α} {w : World} {t ty U : TypeId} {ti : TypeInfo} {z : Value} {u : TypeId} {Y : Value} {A : Option Addr} {L M : List α} {R : List Asn} (ht : P.underlying t = some (.slice U)) (hi : P.info? U = some ti) (hz : ti.zero = some z) (hs : ti.size = E.sz) (hzs : z.cells.size = E.sz)
    (hlim : (L.length + M.length) * ti.bytes ≤ 140737488355328) (hb : L.length + M.length ≤ maxLen) (hM0 : 0 < M.length) (hw : SH w0 w R) (hL : ∀ j v, (cellsL E L)[j]? = some v → ∃ a, A = some a ∧ w.cell? (a.add j) = some v) (hA : A = none → L = []) (hY : ApArg P w u Y ti.size M.length (cellsL E M)) :
    ∃ A' c' w', (Builtin.append_ #[t, u] ty #[.slice A L.length L.length, Y]).run P w = .ok (.slice A' (L ++ M).length c') w' ∧ SH w0 w' (slA U E A' c' (L ++ M) :: R) := by
  have hb' : L.length + M.length ≤ 9223372036854775807 := by simp only [maxLen] at hb; omega
  have hlM : (cellsL E M).length = M.length * ti.size := by rw [cellsL_len, hs]
  have grown : ∀ old, old < L.length + M.length → ∀ rest : Array Value, rest.size = (grownCap w (L.length + M.length) old U - (L.length + M.length)) * E.sz →
      SH w0 (w.drew.alloc (.cells ((cellsL E L).toArray ++ (cellsL E M).toArray ++ rest) U)) (slA U E (some ⟨w.heap.size, 0, none⟩) (grownCap w (L.length + M.length) old U) (L ++ M) :: R) := by
    intro old _ rest hrest
    have hge := grownCap_ge w (L.length + M.length) old U
    have hcm := grownCap_le_maxLen w (L.length + M.length) old U hb
    have h4 := hw.new (w' := w.drew.alloc (.cells ((cellsL E L).toArray ++ (cellsL E M).toArray ++ rest) U)) (o := .cells ((cellsL E L).toArray ++ (cellsL E M).toArray ++ rest) U (0, 0)) rfl rfl rfl (drewHeap _ _)
    obtain ⟨S', hS', hX', hr'⟩ := h4.sat
    refine ⟨h4.os, h4.tape, h4.output, S', .inr ⟨w.heap.size, 0, _, rfl, hS'.1, by simpa using hge, hcm, ?_, fun j v hv => ?_, hS'.2⟩, hX', hr'⟩
    · simp only [Array.size_append, List.size_toArray, cellsL_len, hrest, Nat.zero_add, ← Nat.add_mul]
      exact Nat.mul_le_mul_right _ (by omega)
    · rw [Nat.zero_add, cellsL_append] at *
      have hj := (List.getElem?_eq_some_iff.1 hv).1
      rw [Array.getElem?_append_left (by simpa using hj)]
      rw [← hv]
      simp
  have hzz : ∀ k, (Builtin.zeroCells z.cells k).size = k * E.sz := fun k => by rw [size_zeroCells, hzs]
  rcases A with _ | a
  · obtain rfl := hA rfl
    have hr1 := run_append_nil' (P := P) (ty := ty) ht hi hz hY hM0 (by simp at hb'; omega) (by have := hlim; simp only [List.length_nil, Nat.zero_add] at this; omega)
    have hgr := grown 0 (by simpa using hM0) _ (hzz _)
    have e0 : (cellsL E ([] : List α)).toArray = #[] := rfl
    rw [e0] at hgr
    simp only [List.length_nil, Nat.zero_add, List.nil_append, Array.empty_append] at hgr
    refine ⟨_, _, _, hr1.trans ?_, hgr⟩
    simp
  · have holds : ∀ j v, (cellsL E L)[j]? = some v → w.cell? (a.add j) = some v := fun j v hv => by
      obtain ⟨_, h, hc⟩ := hL j v hv
      cases h; exact hc
    have hr1 := run_append_grow' (P := P) (ty := ty) ht hi hz a L.length L.length (cellsL E L) (by rw [cellsL_len, hs]) holds hY (by omega) (by omega) (growslice_fits (by omega) hlim)
    have hgr := grown L.length (by omega) _ (hzz _)
    exact ⟨_, _, _, hr1.trans (by rw [List.length_append]), hgr⟩
end
end Fw
