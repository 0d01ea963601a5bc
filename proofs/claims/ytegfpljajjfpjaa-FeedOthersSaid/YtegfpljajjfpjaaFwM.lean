import Derived.Test.YtegfpljajjfpjaaFwL
import Derived.Laws.Externs
set_option linter.unusedVariables false
/-! ## 11. A store into an element of a slice -/
namespace Fw
open Go
def splice {α : Type} (C : List α) (k : Nat) (vs : List α) : List α := C.take k ++ vs ++ C.drop (k + vs.length)
theorem splice_at {α : Type} {C vs : List α} {k : Nat} (h : k + vs.length ≤ C.length) (j : Nat) : (splice C k vs)[j]? = if j < k then C[j]? else if j < k + vs.length then vs[j - k]? else C[j]? := by
  unfold splice
  have hk : (C.take k).length = k := by rw [List.length_take]; omega
  by_cases h1 : j < k
  · rw [if_pos h1, List.append_assoc, List.getElem?_append_left (by omega), List.getElem?_take, if_pos h1]
  · rw [if_neg h1]
    by_cases h2 : j < k + vs.length
    · rw [if_pos h2, List.getElem?_append_left (by rw [List.length_append]; omega), List.getElem?_append_right (by omega), hk]
    · rw [if_neg h2, List.getElem?_append_right (by rw [List.length_append]; omega), List.length_append, hk, List.getElem?_drop]
      congr 1; omega
theorem mt_conv {n : NN} {bs bs' : List Nat} {env env' : SEnv} (he : env'.all (fun p => (env.get p.1).isSome) = true) (hv : env'.map (fun p => p.2.den bs') = env'.map (fun p => match env.get p.1 with | some x => x.den bs | none => undef)) : ∀ a, Mt n bs env a → Mt n bs' env' a := by
  intro a hm
  refine ⟨hm.size, hm.defers, fun t x hx => ?_⟩
  have key : ∀ (e : SEnv), e.all (fun p => (env.get p.1).isSome) = true → e.map (fun p => p.2.den bs') = e.map (fun p => match env.get p.1 with | some x => x.den bs | none => undef) → e.get t = some x → ∃ y, env.get t = some y ∧ y.den bs = x.den bs' := by
    intro e
    induction e with
    | nil => intro _ _ h; cases h
    | cons p e ih =>
      intro h1 h2 h3
      simp only [List.all_cons, Bool.and_eq_true] at h1
      simp only [List.map_cons, List.cons.injEq] at h2
      simp only [SEnv.get] at h3
      cases hi : Nat.beq p.1 t with
      | true =>
        simp only [hi, cond_true, Option.some.injEq] at h3
        have : p.1 = t := Nat.eq_of_beq_eq_true hi
        subst this
        cases hg : env.get p.1 with
        | none => rw [hg] at h1; simp at h1
        | some y => rw [hg] at h2; exact ⟨y, rfl, by have := h2.1; rw [h3] at this; exact this.symm⟩
      | false => simp only [hi, cond_false] at h3; exact ih h1.2 h2.2 h3
  obtain ⟨y, hy, hd⟩ := key env' he hv hx
  rw [← hd]
  exact hm.env t y hy
section
variable {α : Type} {E : Enc α}
theorem cellsL_set {vs : List Value} {o : Nat} {v' : α} : ∀ {L : List α} {n : Nat} {u : α}, L[n]? = some u → o + vs.length ≤ E.sz → E.enc v' = splice (E.enc u) o vs → cellsL E (L.set n v') = splice (cellsL E L) (n * E.sz + o) vs
  | [], n, u, h, _, _ => by simp at h
  | x :: L, 0, u, h, ho, he => by
    simp only [List.getElem?_cons_zero, Option.some.injEq] at h
    subst h
    simp only [cellsL, List.set_cons_zero, List.flatMap_cons, he, splice, Nat.zero_mul, Nat.zero_add]
    have hl := E.len x
    rw [List.take_append_of_le_length (by omega), List.drop_append_of_le_length (by omega), List.append_assoc]
  | x :: L, n + 1, u, h, ho, he => by
    have ih := cellsL_set (L := L) (n := n) (u := u) (by simpa using h) ho he
    simp only [cellsL, List.set_cons_succ, List.flatMap_cons] at *
    rw [ih]
    have hl := E.len x
    simp only [splice]
    rw [show (n + 1) * E.sz + o = (E.enc x).length + (n * E.sz + o) by rw [hl, Nat.add_mul]; omega]
    rw [List.take_length_add_append, show (E.enc x).length + (n * E.sz + o) + vs.length = (E.enc x).length + (n * E.sz + o + vs.length) by omega, List.drop_length_add_append]
    simp only [List.append_assoc]
/-- L with element i another one. -/
def setL (L : List α) (i : Int) (v : α) : Option (List α) := if 0 ≤ i ∧ i < (L.length : Int) then some (L.set i.toNat v) else none
theorem setL_some {L r : List α} {i : Int} {v : α} (h : setL L i v = some r) : 0 ≤ i ∧ i < (L.length : Int) ∧ r = L.set i.toNat v ∧ r.length = L.length := by
  unfold setL at h
  split at h
  · cases h; rename_i h; exact ⟨h.1, h.2, rfl, List.length_set⟩
  · cases h
variable {P : Program} {n : NN} {w0 : World} {F : List Asn} {s : SS} {Q : Exit → Act → World → Prop}
theorem op_storeEl {ops : Array Oper} {i : Nat} {K : Act → World → Prop} (T U : TypeId) (x y : Operand) (sz o : Nat) (A : Option Addr) (c : Nat) (L : List α) {r : List α} (ix : Int) (u v' : α) (yv : SV) (ti : TypeInfo) (j : Nat) (H H' : List HE) (env' : SEnv)
    (ho : opAt ops s.env i = some (.store T x y, none, some true)) (hx : opdE s.env x = some (.v (elP A (ix.toNat * sz + o)))) (hy : opdE s.env y = some yv) (hi : P.info? T = some ti) (hz : E.sz = sz) (hu : idx L ix = some u) (hr : setL L ix v' = some r)
    (hsz : Nat.beq (yv.den s.bs).cells.size ti.size = true) (hlt : Nat.ble (o + ti.size) sz = true) (henc : E.enc v' = splice (E.enc u) o (yv.den s.bs).cells.toList) (hp : picked [j] (hden s.bs s.heap) = slA U E A c L :: hden s.bs H)
    (he : env'.all (fun p => (s.env.get p.1).isSome) = true) (hv : r.length = L.length → env'.map (fun p => p.2.den s.bs) = env'.map (fun p => match s.env.get p.1 with | some x => x.den s.bs | none => undef)) (hh : r.length = L.length → hden s.bs H = hden s.bs H')
    (h : Fin n w0 F ⟨s.bs, env', .a (slA U E A c r) :: H'⟩ K) : Rop P n w0 F ops Q i s K := by
  refine rop_of ho fun op a w h1 h2 hst => ?_
  obtain ⟨g1, g2, rfl, g4⟩ := setL_some hr
  have hv2 := hv g4
  have hh2 := hh g4
  subst hz
  have hsz' := Nat.eq_of_beq_eq_true hsz
  have hlt' := Nat.le_of_ble_eq_true hlt
  have h3 : SH w0 w (slA U E A c L :: (hden s.bs H ++ F)) := by
    have := hst.sh.perm ((picked_perm [j] _).append_right F)
    rw [hp] at this
    exact this
  obtain ⟨S, hS, hX, hrest⟩ := h3.sat
  obtain ⟨_, _, hu2⟩ := idx_spec hu
  rcases hS with ⟨rfl, rfl, rfl, hn⟩ | ⟨g, off, cs, rfl, hg, q3, q4, q5, q6, q7⟩
  · simp at hu2
  · generalize hvs : (yv.den s.bs).cells.toList = vs at *
    have hvl : vs.length = ti.size := by rw [← hvs, Array.length_toList, hsz']
    have hone : ∀ v ∈ vs, v.oneCell' = true := fun v hv => E.one v' v (by rw [henc]; unfold splice; simp [hv])
    have hix : ix.toNat + 1 ≤ L.length := by omega
    have hle : ix.toNat * E.sz + E.sz ≤ c * E.sz := by
      rw [← Nat.succ_mul]; exact Nat.mul_le_mul_right _ (by omega)
    have hr1 := run_storeAt (P := P) (T := T) (off := off + (ix.toNat * E.sz + o)) (v := yv.den s.bs) (cs := cs.toList) hi hsz' (by simpa using hg) (by simp only [Array.length_toList]; omega) (by rw [hvs]; exact hone)
    rw [hvs, ← hvl] at hr1
    have hcl := cellsL_set (E := E) (vs := vs) hu2 (by rw [hvl]; exact hlt') henc
    have hCl : (cellsL E L).length = L.length * E.sz := cellsL_len L
    have hle2 : ix.toNat * E.sz + E.sz ≤ L.length * E.sz := by
      rw [← Nat.succ_mul]; exact Nat.mul_le_mul_right _ hix
    refine opwp_skip (w' := w.setRow g (splice cs.toList (off + (ix.toNat * E.sz + o)) vs).toArray) ?_ (h _ _ ⟨?_, ?_⟩)
    · have e1 : a.eval x = .pointer (some ⟨g, off + (ix.toNat * E.sz + o), none⟩) := (hst.mt.opd hx).trans (by simp only [SV.den, elP, add_lit])
      simp only [execOp, h1, e1, hst.mt.opd hy, Sem.run_bind, hr1, Result.andThen_ok, Sem.run_pure]
      rfl
    · rw [h2]; exact mt_conv he hv2 _ hst.mt
    · rw [show hden s.bs (HE.a (slA U E (some ⟨g, off, none⟩) c (L.set ix.toNat v')) :: H') = slA U E (some ⟨g, off, none⟩) c (L.set ix.toNat v') :: hden s.bs H' from rfl, ← hh2]
      have hsp : (splice cs.toList (off + (ix.toNat * E.sz + o)) vs).length = cs.size := by
        simp only [splice, List.length_append, List.length_take, List.length_drop, Array.length_toList]; omega
      refine ⟨h3.os, h3.tape, h3.output, S, .inr ⟨g, off, _, rfl, setRow_heap w g cs _ U (0, 0) hg, by rw [List.length_set]; exact q3, q4, by simp only [List.size_toArray, hsp]; exact q5, fun k v hv => ?_, q7⟩, hX, sats_change hrest fun k hk _ => setRow_other w g k _ fun e => hk (.inr ((q7 k).2 e))⟩
      rw [hcl, splice_at (by rw [hvl, hCl]; omega)] at hv
      simp only [List.getElem?_toArray]
      rw [splice_at (by rw [hvl, Array.length_toList]; omega)]
      by_cases c1 : k < ix.toNat * E.sz + o
      · rw [if_pos c1] at hv
        rw [if_pos (by omega)]
        simpa using q6 k v hv
      · rw [if_neg c1] at hv
        rw [if_neg (by omega)]
        by_cases c2 : k < ix.toNat * E.sz + o + vs.length
        · rw [if_pos c2] at hv
          rw [if_pos (by omega)]
          rw [← hv]; congr 1; omega
        · rw [if_neg c2] at hv
          rw [if_neg (by omega)]
          simpa using q6 k v hv
end
end Fw
namespace Fw
open Go
section
variable {P : Program} {n : NN} {w0 : World} {F : List Asn} {s : SS} {Q : Exit → Act → World → Prop}
theorem ob_pure {L : List Asn} {m : Sem Next} {v : Value} (h : pureRun P m = some (.value v)) : obOk P w0 L (m, v) := fun _ w _ => pureRun_run h w
theorem rn_label_un {c R : Code} {l : Nat} (m : Nat) (h : Rn P n w0 F R s (Exit.jumps (scopeG P c Q m) Q)) : Rn P n w0 F (.seq (.label l) R) s (Exit.jumps (scopeJ P c Q) Q) := fun a w hs =>
  wp_seq (wp_label (wp_mono (h a w hs) fun _ _ _ hq => jumps_mono (fun _ _ _ hl => ⟨_, hl⟩) hq))
theorem fin_goto_un {c R : Code} {l m : Nat} (hf : findLabel c l = some (.seq .skip R)) (h : Rn P n w0 F R s (Exit.jumps (scopeG P c Q m) Q)) : Fin n w0 F s (Exit.jumps (scopeG P c Q (m + 1)) Q (.goto l)) := fun a w hs =>
  ⟨_, hf, wp_seq (wp_skip (h a w hs))⟩
end
end Fw
namespace Fw
open Go
section
variable {P : Program} {n : NN} {w0 : World} {F : List Asn} {s : SS} {Q : Exit → Act → World → Prop}
/-- An operation that leaves the world alone, by itself, its value being shown. -/
theorem op_hint {ops : Array Oper} {i : Nat} {K : Act → World → Prop} (x : SV) (env' : SEnv) (o : Oper) (m : Sem Next) (v : Value) (ho : ops[i]? = some o) (hns : Region.noSelect ops = true) (hw : wantedE ops s.env o = some true) (hk : knownB s.env o = true)
    (hm : execOp (evE s.bs s.env) o = m) (hv : x.den s.bs = v) (hob : obOk P w0 (hden s.bs s.heap ++ F) (m, v)) (hp : putE n s.env o.dst x = some env') (h : Fin n w0 F ⟨s.bs, env', s.heap⟩ K) : Rop P n w0 F ops Q i s K :=
  op_quiet (some x) x env' o ho hns hw hk rfl (fun y hy => by cases hy; rw [hm, hv]; exact hob) hp h
end
end Fw
namespace Fw
open Go
section
variable {P : Program} {n : NN} {w0 : World} {F : List Asn} {s : SS} {Q : Exit → Act → World → Prop}
/-- A call of which a pointer comes back. -/
theorem op_callp {ops : Array Oper} {i : Nat} {K : Act → World → Prop} {f : FuncId} {xs : Array Operand} {ats : Array TypeId} {d : Option Tmp} {args : Array Value}
    (ho : opAt ops s.env i = some (.call { callee := .value (.func f), args := xs, argTypes := ats }, d, some true)) (hk : xs.all (fun x => (opdE s.env x).isSome) = true)
    (hargs : #[] ++ xs.map (evE s.bs s.env) ++ #[] = args) (hf : pureRun P (callFunc f args) = some (.enter f args))
    (hc : ∀ w, SH w0 w (hden s.bs s.heap ++ F) → Calls P f args w (fun e w' => ∃ v bs' H' env' env'', e = .returned v ∧ SH w0 w' (hden bs' H' ++ F) ∧ putE n s.env d (.v v) = some env' ∧ (∀ a, Mt n s.bs env' a → Mt n bs' env'' a) ∧ Fin n w0 F ⟨bs', env'', H'⟩ K)) :
    Rop P n w0 F ops Q i s K := by
  refine rop_of ho fun o a w h1 h2 hs => ?_
  have hmap : xs.map a.eval = xs.map (evE s.bs s.env) := Array.map_congr_left fun x hx => hs.mt.ev (Array.all_eq_true_iff_forall_mem.1 hk x hx)
  have he : execOp a.eval o = callFunc f args := by
    rw [← hargs, ← hmap]
    obtain ⟨dst, op, ty, pos, after, guard⟩ := o
    simp only at h1
    subst h1
    rfl
  unfold Oper.wp
  rw [he, pureRun_run hf w]
  simp only [Oper.upon]
  refine (hc w hs.sh).mono fun e w' hr => ?_
  obtain ⟨v, bs', H', env', env'', rfl, hsh, hp, hmt, hfin⟩ := hr
  exact hfin _ _ ⟨hmt _ (by rw [h2]; exact hs.mt.put hp), hsh⟩
end
end Fw
namespace Fw
open Go
def add64 (x y c : Int) : Option (Int × Int) := if 0 ≤ x ∧ 0 ≤ y ∧ 0 ≤ c ∧ c ≤ 1 then some ((x + y + c) % 18446744073709551616, (x + y + c) / 18446744073709551616) else none
def smCf (f : FuncId) (args : Array Value) : Sem Next := callFunc f args
theorem ob_add64 {P : Program} {w0 : World} {L : List Asn} {f : FuncId} {fn : Func} {x y c : Int} {r : Int × Int} (hf : P.funcs[f]? = some fn) (hname : (fn.name == "runtime.NumGoroutine") = false) (hb : fn.body.isNone = true) (hn : Extern.findNext fn = none) (he : Extern.find fn = some add64Entry)
    (h : add64 x y c = some r) : obOk P w0 L (smCf f #[.int .u64 x, .int .u64 y, .int .u64 c], .tuple #[.int .u64 r.1, .int .u64 r.2]) := fun _ w _ => by
  unfold add64 at h
  split at h
  · rename_i h1
    cases h
    rw [smCf, Go.run_callFunc_extern hf hname hb hn he, run_add64 x y c h1.1 h1.2.1 h1.2.2.1 h1.2.2.2]
    rfl
  · cases h
end Fw
