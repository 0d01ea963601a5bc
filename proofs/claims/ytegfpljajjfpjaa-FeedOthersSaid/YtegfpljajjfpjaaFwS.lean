import Derived.Test.YtegfpljajjfpjaaFwR
set_option linter.unusedVariables false
/-! ## 17. Maps by whole numbers -/
namespace Fw
open Go
def mfind {β : Type} (k : Int) : List (Int × β) → Nat → Option (Nat × β)
  | [], _ => none
  | p :: m, i => if k = p.1 then some (i, p.2) else mfind k m (i + 1)
def mlook {β : Type} (m : List (Int × β)) (k : Int) (z : β) : Option (β × Bool) := some (match mfind k m 0 with
  | some (_, v) => (v, true)
  | none => (z, false))
def mset {β : Type} (k : Int) (v : β) : List (Int × β) → List (Int × β)
  | [] => [(k, v)]
  | p :: m => if k = p.1 then (p.1, v) :: m else p :: mset k v m
def mdel {β : Type} (k : Int) : List (Int × β) → List (Int × β)
  | [] => []
  | p :: m => if k = p.1 then m else p :: mdel k m
/-- A map: keys of the kind kk, values by V. -/
def mapA {β : Type} (kk : IntKind) (V : β → Value) (b : Nat) (m : List (Int × β)) : Asn where
  sat h S := ∃ es clock, h[b]? = some (.map es clock) ∧ es.toList.map (fun e => (e.key, e.val)) = m.map (fun p => (Value.int kk p.1, V p.2)) ∧ ∀ k, S k ↔ k = b
  loc := by
    rintro h h' S ⟨es, cl, h1, h2, h3⟩ hs
    exact ⟨es, cl, (hs b ((h3 b).2 rfl)).trans h1, h2, h3⟩
  lt := by
    rintro h S ⟨es, cl, h1, h2, h3⟩ k hk
    rw [(h3 k).1 hk]; exact (Array.getElem?_eq_some_iff.1 h1).1
def smLk (T : TypeId) (x i : Value) (ok : Bool) : Sem Next := do pure (.value (← Instr.lookup T x i ok))
section
variable {β : Type} {kk : IntKind} {V : β → Value}
theorem findNow_map (k : Int) : ∀ (l : List MapEntry) (m : List (Int × β)) (i : Nat), l.map (fun e => (e.key, e.val)) = m.map (fun p => (Value.int kk p.1, V p.2)) →
    Instr.findNow (.int kk) (.int kk k) l i = some ((mfind k m i).map fun r => (r.1, V r.2))
  | [], [], i, _ => rfl
  | [], _ :: _, _, h => by simp at h
  | _ :: _, [], _, h => by simp at h
  | e :: l, p :: m, i, h => by
    simp only [List.map_cons, List.cons.injEq, Prod.mk.injEq] at h
    have h1 : Instr.sameNow (.int kk) (.int kk k) e.key = some (k == p.1) := by rw [h.1.1]; simp [Instr.sameNow]
    unfold Instr.findNow
    rw [h1]
    by_cases hk : k = p.1
    · have : (k == p.1) = true := by simpa using hk
      simp only [this, mfind, if_pos hk, Option.map_some, h.1.2]
    · have : (k == p.1) = false := by simpa using hk
      simp only [this, mfind, if_neg hk]
      exact findNow_map k l m (i + 1) h.2
theorem map_eraseIdx {α γ : Type} (f : α → γ) : ∀ (l : List α) (i : Nat), (l.eraseIdx i).map f = (l.map f).eraseIdx i
  | [], _ => rfl
  | _ :: _, 0 => rfl
  | x :: l, i + 1 => by simp [map_eraseIdx f l i]
theorem mfind_some {k : Int} : ∀ {m : List (Int × β)} {i j : Nat} {v : β}, mfind k m i = some (j, v) → ∃ q, j = i + q ∧ m[q]? = some (k, v) ∧ (∀ w, mset k w m = m.set q (k, w)) ∧ mdel k m = m.eraseIdx q
  | [], _, _, _, h => by cases h
  | p :: m, i, j, v, h => by
    unfold mfind at h
    split at h
    · rename_i hk
      cases h
      refine ⟨0, rfl, by simp [hk], fun w => by simp [mset, hk], by simp [mdel, hk]⟩
    · rename_i hk
      obtain ⟨q, h1, h2, h3, h4⟩ := mfind_some h
      exact ⟨q + 1, by omega, by simpa using h2, fun w => by simp [mset, hk, h3 w], by simp [mdel, hk, h4]⟩
theorem mfind_none {k : Int} : ∀ {m : List (Int × β)} {i : Nat}, mfind k m i = none → (∀ w, mset k w m = m ++ [(k, w)]) ∧ mdel k m = m
  | [], _, _ => ⟨fun _ => rfl, rfl⟩
  | p :: m, i, h => by
    unfold mfind at h
    split at h
    · cases h
    · rename_i hk
      obtain ⟨h3, h4⟩ := mfind_none h
      exact ⟨fun w => by simp [mset, hk, h3 w], by simp [mdel, hk, h4]⟩
variable {P : Program} {n : NN} {w0 : World} {F : List Asn} {s : SS} {Q : Exit → Act → World → Prop}
theorem run_getObj' {w : World} {b : Nat} {es : Array MapEntry} {cl : Nat} (h : w.heap[b]? = some (.map es cl)) : (getObj b).run P w = .ok (.map es cl) w := by
  simp [getObj, Sem.run, h]
theorem run_setObj' {w : World} {b : Nat} {es : Array MapEntry} {cl : Nat} (o : Obj) (hb : w.heap[b]? = some (.map es cl)) : (setObj b o).run P w = .ok () { w with heap := w.heap.setIfInBounds b o } := by
  simp [setObj, Sem.run, hb]
theorem run_checkKey {e : Bool} {kt : TypeId} {k : Int} (hk : P.underlying kt = some (.int kk)) (w : World) : (Instr.checkKey e 10000 kt (.int kk k)).run P w = .ok () w := by
  have h2 : (underlying kt).run P w = .ok (.int kk) w := by simp [underlying, hk]
  show (Instr.checkKey e (9999 + 1) kt (.int kk k)).run P w = .ok () w
  unfold Instr.checkKey
  simp [h2]
theorem run_findKey {kt : TypeId} {k : Int} {l : List MapEntry} {m : List (Int × β)} (hk : P.underlying kt = some (.int kk)) (h : l.map (fun e => (e.key, e.val)) = m.map (fun p => (Value.int kk p.1, V p.2))) (w : World) :
    (Instr.findKey kt (.int kk k) l).run P w = .ok ((mfind k m 0).map fun r => (r.1, V r.2)) w := by
  have h2 : (underlying kt).run P w = .ok (.int kk) w := by simp [underlying, hk]
  simp [Instr.findKey, h2, findNow_map k l m 0 h]
theorem ob_look {Ls : List Asn} {T kt et : TypeId} {b : Nat} {m : List (Int × β)} {k : Int} {z : β} {y : β × Bool} (j : Nat) (hT : P.underlying T = some (.map kt et)) (hk : P.underlying kt = some (.int kk)) (hz : (P.info? et).map (·.zero) = some (some (V z))) (hj : Ls[j]? = some (mapA kk V b m)) (hy : mlook m k z = some y) :
    obOk P w0 Ls (smLk T (.map (some b)) (.int kk k) true, .tuple #[V y.1, .bool y.2]) := fun F' w hs => by
  obtain ⟨S, es, cl, h1, h2, h3⟩ := sats_mem (List.mem_append_left F' (List.mem_of_getElem? hj)) hs.sat
  have hT' : (underlying T).run P w = .ok (.map kt et) w := by simp [underlying, hT]
  have hg : (getObj b).run P w = .ok (.map es cl) w := run_getObj' h1
  obtain ⟨ti, hti, hz'⟩ := Option.map_eq_some_iff.1 hz
  have hzz : (zeroValue et).run P w = .ok (V z) w := by simp [zeroValue, typeInfo, hti, hz']
  have hc := fun e => run_checkKey (e := e) (kt := kt) (k := k) hk w
  have hf := run_findKey (k := k) hk h2 w
  simp only [mlook, Option.some.injEq] at hy
  subst hy
  cases hm : mfind k m 0 with
  | none => rw [hm] at hf; simp [smLk, Instr.lookup, hT', hg, hc, hf, hzz]
  | some r => rw [hm] at hf; simp [smLk, Instr.lookup, hT', hg, hc, hf]
/-- A map is made. -/
theorem op_mkmap {ops : Array Oper} {i : Nat} {K : Act → World → Prop} (kk : IntKind) (V : β → Value) (T : TypeId) (d : Tmp) (ho : opAt ops s.env i = some (.makeMap T none, some d, some true)) (hd : Nat.blt d n.n = true)
    (h : ∀ b, Fin n w0 F ⟨s.bs, (d, .v (.map (some b))) :: s.env, .a (mapA kk V b []) :: s.heap⟩ K) : Rop P n w0 F ops Q i s K := by
  refine rop_of ho fun o a w h1 h2 hs => ?_
  refine opwp_value (v := .map (some w.heap.size)) (w' := { w with heap := w.heap.push (.map #[] 0) }) ?_ (h w.heap.size _ _ ⟨?_, ?_⟩)
  · simp [execOp, h1, Instr.makeMap]
  · rw [h2]
    exact hs.mt.put (dst := some d) (x := .v (.map (some w.heap.size))) (by simp only [putE, hd, cond_true])
  · have h3 := hs.sh.new (w' := { w with heap := w.heap.push (.map #[] 0) }) (o := .map #[] 0) rfl rfl rfl rfl
    obtain ⟨S, hS, hX, hr⟩ := h3.sat
    exact ⟨h3.os, h3.tape, h3.output, S, ⟨#[], 0, hS.1, rfl, hS.2⟩, hX, hr⟩
theorem SH.mapset {w : World} {b : Nat} {m m' : List (Int × β)} {R : List Asn} {es : Array MapEntry} {cl : Nat} (h : SH w0 w (mapA kk V b m :: R)) (he : es.toList.map (fun e => (e.key, e.val)) = m'.map (fun p => (Value.int kk p.1, V p.2))) :
    SH w0 { w with heap := w.heap.setIfInBounds b (.map es cl) } (mapA kk V b m' :: R) := by
  obtain ⟨S, ⟨es0, cl0, h1, h2, h3⟩, hX, hr⟩ := h.sat
  have hb : b < w.heap.size := (Array.getElem?_eq_some_iff.1 h1).1
  refine ⟨h.os, h.tape, h.output, S, ⟨es, cl, by simp [hb], he, h3⟩, hX, sats_change hr fun k hk _ => ?_⟩
  have : k ≠ b := fun e => hk (.inr ((h3 k).2 e))
  simp [Array.getElem?_setIfInBounds_ne (Ne.symm this)]
theorem map_obj {w : World} {b : Nat} {m : List (Int × β)} {R : List Asn} (h : SH w0 w (mapA kk V b m :: R)) : ∃ es cl, w.heap[b]? = some (.map es cl) ∧ es.toList.map (fun e => (e.key, e.val)) = m.map (fun p => (Value.int kk p.1, V p.2)) := by
  obtain ⟨S, ⟨es0, cl0, h1, h2, h3⟩, hX, hr⟩ := h.sat
  exact ⟨es0, cl0, h1, h2⟩
theorem map_entry {es : Array MapEntry} {m : List (Int × β)} (h : es.toList.map (fun e => (e.key, e.val)) = m.map (fun p => (Value.int kk p.1, V p.2))) {q : Nat} {k : Int} {v : β} (hq : m[q]? = some (k, v)) : ∃ e, es[q]? = some e ∧ e.key = .int kk k ∧ e.val = V v := by
  have h1 : (es.toList.map (fun e => (e.key, e.val)))[q]? = some (Value.int kk k, V v) := by rw [h, List.getElem?_map, hq]; rfl
  rw [List.getElem?_map, Option.map_eq_some_iff] at h1
  obtain ⟨e, he, heq⟩ := h1
  simp only [Prod.mk.injEq] at heq
  exact ⟨e, by simpa using he, heq.1, heq.2⟩
theorem run_mapset {w : World} {T kt et : TypeId} {b : Nat} {m : List (Int × β)} {k : Int} {v : β} {R : List Asn} (hT : P.underlying T = some (.map kt et)) (hk : P.underlying kt = some (.int kk)) (h : SH w0 w (mapA kk V b m :: R)) :
    ∃ w', (Instr.mapUpdate T (.map (some b)) (.int kk k) (V v)).run P w = .ok () w' ∧ SH w0 w' (mapA kk V b (mset k v m) :: R) := by
  obtain ⟨es, cl, h1, h2⟩ := map_obj h
  have hT' : (underlying T).run P w = .ok (.map kt et) w := by simp [underlying, hT]
  have hg : (getObj b).run P w = .ok (.map es cl) w := run_getObj' h1
  have hb : b < w.heap.size := (Array.getElem?_eq_some_iff.1 h1).1
  have hc := run_checkKey (e := false) (kt := kt) (k := k) hk w
  have hf := run_findKey (k := k) hk h2 w
  cases hm : mfind k m 0 with
  | none =>
    rw [hm] at hf
    have hms := (mfind_none hm).1 v
    refine ⟨{ w with heap := w.heap.setIfInBounds b (.map (es.push { key := .int kk k, val := V v, born := cl }) (cl + 1)) }, ?_, SH.mapset h ?_⟩
    · simp [Instr.mapUpdate, hT', hg, hc, hf, run_setObj' _ h1]
    · rw [hms]; simp [h2]
  | some r =>
    obtain ⟨j, u⟩ := r
    rw [hm] at hf
    obtain ⟨q, e1, e2, e3, _⟩ := mfind_some hm
    obtain rfl : j = q := by omega
    obtain ⟨e, he, hek, _⟩ := map_entry h2 e2
    have hst : ∀ (key : Value) (w : World), key = .int kk k → (Instr.keyThatStays key (.int kk k)).run P w = .ok (.int kk k) w := by
      rintro key w rfl
      have : Instr.sameBits 10000 (.int kk k) (.int kk k) = true := by simp [Instr.sameBits]
      simp [Instr.keyThatStays, this]
    have hst1 := hst (((es[j]?).map (·.key)).getD (.int kk k)) w (by rw [he]; exact hek)
    refine ⟨{ w with heap := w.heap.setIfInBounds b (.map (es.modify j fun e => { e with key := .int kk k, val := V v }) cl) }, ?_, SH.mapset h ?_⟩
    · simp only [Instr.mapUpdate, Sem.run_bind, hT', Result.andThen_ok, hg, hc, hf, Option.map_some, hst1]
      simp [run_setObj' _ h1]
    · rw [e3 v, Array.toList_modify, List.map_set, ← h2]
      apply List.ext_getElem?
      intro i
      rw [List.getElem?_map, List.getElem?_modify, List.getElem?_set, List.length_map]
      by_cases hij : j = i
      · subst hij
        have hl : j < es.toList.length := by have := (Array.getElem?_eq_some_iff.1 he).1; simpa using this
        have he' : es.toList[j]? = some e := by simpa using he
        rw [he']
        simp only [if_true, Option.map_some, if_pos hl]
        rfl
      · simp only [if_neg hij]
        rw [List.getElem?_map]
        simp [Option.map_map]
theorem op_mapset {ops : Array Oper} {i : Nat} {K : Act → World → Prop} (T kt et : TypeId) (x y u : Operand) (op : Op) (b : Nat) (m : List (Int × β)) (k : Int) (v : β) (yk yv : SV) (j : Nat) (H : List HE) (m' : List (Int × β))
    (hop : op = .mapUpdate T x y u ∨ op = .insert T x y u) (ho : opAt ops s.env i = some (op, none, some true)) (hx : opdE s.env x = some (.v (.map (some b)))) (hy : opdE s.env y = some yk) (hyk : yk.den s.bs = .int kk k) (hu : opdE s.env u = some yv) (huv : yv.den s.bs = V v)
    (hT : P.underlying T = some (.map kt et)) (hk : P.underlying kt = some (.int kk)) (hp : picked [j] (hden s.bs s.heap) = mapA kk V b m :: hden s.bs H) (hm : mset k v m = m')
    (h : Fin n w0 F ⟨s.bs, s.env, .a (mapA kk V b m') :: H⟩ K) : Rop P n w0 F ops Q i s K := by
  refine rop_of ho fun o a w h1 h2 hst => ?_
  subst hm
  have h3 : SH w0 w (mapA kk V b m :: (hden s.bs H ++ F)) := by
    have := hst.sh.perm ((picked_perm [j] _).append_right F)
    rw [hp] at this
    exact this
  obtain ⟨w', hr, hsh⟩ := run_mapset (k := k) (v := v) hT hk h3
  have e1 : a.eval x = .map (some b) := hst.mt.opd hx
  have e2 : a.eval y = .int kk k := (hst.mt.opd hy).trans hyk
  have e3 : a.eval u = V v := (hst.mt.opd hu).trans huv
  refine opwp_skip (w' := w') ?_ (h _ _ ⟨by rw [h2]; exact hst.mt, hsh⟩)
  rcases hop with rfl | rfl
  · simp only [execOp, h1, e1, e2, e3, Sem.run_bind, hr, Result.andThen_ok, Sem.run_pure]
  · simp only [execOp, h1, e1, e2, e3, Sem.run_bind, hr, Result.andThen_ok, Sem.run_pure]
theorem op_mapdel {ops : Array Oper} {i : Nat} {K : Act → World → Prop} (T kt et kT : TypeId) (x y : Operand) (d : Option Tmp) (b : Nat) (m : List (Int × β)) (k : Int) (yk : SV) (j : Nat) (H : List HE) (env' : SEnv)
    (ho : opAt ops s.env i = some (.call { callee := .builtin .delete, args := #[x, y], argTypes := #[T, kT] }, d, some true)) (hx : opdE s.env x = some (.v (.map (some b)))) (hy : opdE s.env y = some yk) (hyk : yk.den s.bs = .int kk k)
    (hT : P.underlying T = some (.map kt et)) (hk : P.underlying kt = some (.int kk)) (hp : picked [j] (hden s.bs s.heap) = mapA kk V b m :: hden s.bs H) (hput : putE n s.env d (.v (.tuple #[])) = some env')
    (h : Fin n w0 F ⟨s.bs, env', .a (mapA kk V b (mdel k m)) :: H⟩ K) : Rop P n w0 F ops Q i s K := by
  refine rop_of ho fun o a w h1 h2 hst => ?_
  have h3 : SH w0 w (mapA kk V b m :: (hden s.bs H ++ F)) := by
    have := hst.sh.perm ((picked_perm [j] _).append_right F)
    rw [hp] at this
    exact this
  obtain ⟨es, cl, g1, g2⟩ := map_obj h3
  have hT' : (underlying T).run P w = .ok (.map kt et) w := by simp [underlying, hT]
  have hg : (getObj b).run P w = .ok (.map es cl) w := run_getObj' g1
  have hb : b < w.heap.size := (Array.getElem?_eq_some_iff.1 g1).1
  have hc := fun e => run_checkKey (e := e) (kt := kt) (k := k) hk w
  have hf := run_findKey (k := k) hk g2 w
  have e1 : a.eval x = .map (some b) := hst.mt.opd hx
  have e2 : a.eval y = .int kk k := (hst.mt.opd hy).trans hyk
  have key : ∃ w', (Builtin.delete_ #[T, kT] o.type #[.map (some b), .int kk k]).run P w = .ok (.tuple #[]) w' ∧ SH w0 w' (mapA kk V b (mdel k m) :: (hden s.bs H ++ F)) := by
    cases hm : mfind k m 0 with
    | none =>
      rw [hm] at hf
      refine ⟨{ w with heap := w.heap.setIfInBounds b (.map es cl) }, ?_, SH.mapset h3 ?_⟩
      · simp [Builtin.delete_, hT', hg, hc, hf, run_setObj' _ g1]
      · rw [(mfind_none hm).2]; exact g2
    | some r =>
      obtain ⟨q0, u⟩ := r
      rw [hm] at hf
      obtain ⟨q, q1, q2, _, q4⟩ := mfind_some hm
      obtain rfl : q0 = q := by omega
      refine ⟨{ w with heap := w.heap.setIfInBounds b (.map (es.eraseIdxIfInBounds q0) cl) }, ?_, SH.mapset h3 ?_⟩
      · simp [Builtin.delete_, hT', hg, hc, hf, run_setObj' _ g1]
      · rw [q4]
        have : (es.eraseIdxIfInBounds q0).toList = es.toList.eraseIdx q0 := by simp
        rw [this, map_eraseIdx, g2, map_eraseIdx]
  obtain ⟨w', hr, hsh⟩ := key
  refine opwp_value (v := .tuple #[]) (w' := w') ?_ (h _ _ ⟨by rw [h2]; exact hst.mt.put (x := .v (.tuple #[])) hput, hsh⟩)
  simp only [execOp, h1, resolve, invoke, builtin, Sem.run_bind, Sem.run_pure, Result.andThen_ok, List.map_toArray, List.map_cons, List.map_nil, e1, e2, hr]
def smLn (ats : Array TypeId) (t : TypeId) (x : Value) : Sem Next := do pure (.value (← Builtin.len_ ats t #[x]))
theorem ob_maplen {Ls : List Asn} {T kt et ty : TypeId} {b : Nat} {m : List (Int × β)} (j : Nat) (hT : P.underlying T = some (.map kt et)) (hj : Ls[j]? = some (mapA kk V b m)) :
    obOk P w0 Ls (smLn #[T] ty (.map (some b)), .int .i64 (m.length : Int)) := fun F' w hs => by
  obtain ⟨S, es, cl, h1, h2, h3⟩ := sats_mem (List.mem_append_left F' (List.mem_of_getElem? hj)) hs.sat
  have hT' : (underlying T).run P w = .ok (.map kt et) w := by simp [underlying, hT]
  have hg : (getObj b).run P w = .ok (.map es cl) w := run_getObj' h1
  have hl : es.size = m.length := by have := congrArg List.length h2; simpa using this
  simp [smLn, Builtin.len_, hT', hg, hl, goInt]
end
end Fw
