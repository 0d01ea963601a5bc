import Derived.Test.YtegfpljajjfpjaaFwA
import Derived.OrdersHeld
set_option linter.unusedVariables false
/-! ## 2. Symbolic states: what is known of a frame and of the heap; operations that leave the world alone -/
namespace Fw
open Go

structure NN where
  n : Nat
  D : List Deferred
instance (k : Nat) : OfNat NN k := ⟨⟨k, []⟩⟩
/-- A value, or the address of a cell of a known block (by its place in a table). -/
inductive SV where
  | v (x : Value)
  | p (k off : Nat)
def SV.den (bs : List Nat) : SV → Value
  | .v x => x
  | .p k off => .pointer (some ⟨bs.getD k 0, off, none⟩)
abbrev SEnv := List (Nat × SV)
def SEnv.get : SEnv → Nat → Option SV
  | [], _ => none
  | (i, s) :: e, t => bif Nat.beq i t then some s else SEnv.get e t
def SEnv.keep (l : List Nat) (e : SEnv) : SEnv := match l with
  | [] => []
  | i :: l => match e.get i with
    | some s => (i, s) :: SEnv.keep l e
    | none => SEnv.keep l e
/-- A part of the heap: the cells of block number k of the table, or an assertion. -/
inductive HE where
  | c (k : Nat) (cs : List SV) (T : TypeId)
  | a (A : Asn)
def HE.den (bs : List Nat) : HE → Asn
  | .c k cs T => cellsA (bs.getD k 0) (cs.map (SV.den bs)) T
  | .a A => A
def hden (bs : List Nat) (H : List HE) : List Asn := H.map (HE.den bs)

/-- What is known of the frame. -/
structure Mt (n : NN) (bs : List Nat) (env : SEnv) (a : Act) : Prop where
  size : a.tmps.size = n.n
  defers : a.defers = n.D
  env : ∀ t x, env.get t = some x → a.tmps[t]? = some (x.den bs)

theorem keep_get {t : Nat} {x : SV} {e : SEnv} : ∀ {l : List Nat}, (e.keep l).get t = some x → e.get t = some x
  | [], h => by simp [SEnv.keep, SEnv.get] at h
  | i :: l, h => by
    simp only [SEnv.keep] at h
    split at h
    · rename_i s hs
      simp only [SEnv.get] at h
      cases hi : Nat.beq i t with
      | true =>
        have : i = t := Nat.eq_of_beq_eq_true hi
        subst this
        simp only [hi, cond_true] at h
        rw [hs, h]
      | false =>
        simp only [hi, cond_false] at h
        exact keep_get h
    · exact keep_get h
theorem Mt.keep {n : NN} {bs : List Nat} {env : SEnv} {a : Act} (h : Mt n bs env a) (l : List Nat) : Mt n bs (env.keep l) a :=
  ⟨h.size, h.defers, fun t x hx => h.env t x (keep_get hx)⟩

def opdE (env : SEnv) : Operand → Option SV
  | .tmp t => env.get t
  | .const v => some (.v v)
  | .global g => some (.v (.pointer (some ⟨g, 0, none⟩)))
  | .func f => some (.v (.func (.func f) #[] #[]))
def evE (bs : List Nat) (env : SEnv) (x : Operand) : Value :=
  match opdE env x with
  | some y => y.den bs
  | none => undef

theorem Mt.opd {n : NN} {bs : List Nat} {env : SEnv} {a : Act} (h : Mt n bs env a) {x : Operand} {y : SV} (hx : opdE env x = some y) : a.eval x = y.den bs := by
  cases x <;> simp only [opdE] at hx
  case tmp t => simp [Act.eval, h.env t y hx]
  all_goals (cases hx; rfl)
theorem Mt.ev {n : NN} {bs : List Nat} {env : SEnv} {a : Act} (h : Mt n bs env a) {x : Operand} (hx : (opdE env x).isSome = true) : a.eval x = evE bs env x := by
  obtain ⟨y, hy⟩ := Option.isSome_iff_exists.1 hx
  rw [h.opd hy, evE, hy]

def putE (n : NN) (env : SEnv) (dst : Option Tmp) (x : SV) : Option SEnv :=
  match dst with
  | none => some env
  | some d => bif Nat.blt d n.n then some ((d, x) :: env) else none
theorem Mt.put {n : NN} {bs : List Nat} {env env' : SEnv} {a : Act} (h : Mt n bs env a) {dst : Option Tmp} {x : SV} (hp : putE n env dst x = some env') : Mt n bs env' (a.put dst (x.den bs)) := by
  cases dst with
  | none => simp only [putE, Option.some.injEq] at hp; subst hp; exact h
  | some d =>
    simp only [putE] at hp
    cases hd : Nat.blt d n.n with
    | false => simp [hd] at hp
    | true =>
      simp only [hd, cond_true, Option.some.injEq] at hp
      subst hp
      have hdn : d < n.n := Nat.le_of_ble_eq_true hd
      refine ⟨by simp [Act.put, h.size], h.defers, fun t y => ?_⟩
      simp only [SEnv.get]
      by_cases ht : Nat.beq d t = true
      · have : d = t := Nat.eq_of_beq_eq_true ht
        subst this
        simp only [ht, cond_true, Option.some.injEq]
        rintro rfl
        simp [Act.put, h.size, hdn]
      · simp only [ht, cond_false]
        intro hg
        have hne : d ≠ t := fun e => ht (by subst e; exact Nat.beq_refl d)
        simp only [Act.put]
        rw [Array.getElem?_setIfInBounds_ne hne]
        exact h.env t y hg

/-- A computation that looks at no world. -/
def pureRun (P : Program) {α : Type} : Sem α → Option α
  | .pure a => some a
  | .program k => pureRun P (k P)
  | .mark _ k => pureRun P k
  | _ => none
theorem pureRun_run {P : Program} {α : Type} {m : Sem α} {x : α} (h : pureRun P m = some x) (w : World) : m.run P w = .ok x w := by
  induction m with
  | pure a => simp only [pureRun, Option.some.injEq] at h; subst h; rfl
  | program k ih => exact ih _ h
  | mark m k ih => exact ih h
  | _ => simp [pureRun] at h

def findC : List HE → Nat → Option (List SV × TypeId)
  | [], _ => none
  | .c k cs T :: H, i => bif Nat.beq k i then some (cs, T) else findC H i
  | .a _ :: H, i => findC H i

theorem sats_mem {h : Array Obj} : ∀ {L : List Asn} {X : Nat → Prop} {A : Asn}, A ∈ L → sats h X L → ∃ S, A.sat h S
  | [], _, _, hm, _ => by cases hm
  | B :: L, X, A, hm, ⟨S, h1, h2, h3⟩ => by
    rcases List.mem_cons.1 hm with rfl | hm
    · exact ⟨S, h1⟩
    · exact sats_mem hm h3

theorem findC_mem {bs : List Nat} : ∀ {H : List HE} {i : Nat} {cs : List SV} {T : TypeId}, findC H i = some (cs, T) → cellsA (bs.getD i 0) (cs.map (SV.den bs)) T ∈ hden bs H
  | [], _, _, _, h => by simp [findC] at h
  | .c k cs' T' :: H, i, cs, T, h => by
    simp only [findC] at h
    cases hk : Nat.beq k i with
    | true =>
      simp only [hk, cond_true, Option.some.injEq, Prod.mk.injEq] at h
      have : k = i := Nat.eq_of_beq_eq_true hk
      obtain ⟨rfl, rfl⟩ := h
      subst this
      exact List.mem_cons_self
    | false =>
      simp only [hk, cond_false] at h
      exact List.mem_cons_of_mem _ (findC_mem h)
  | .a A :: H, i, cs, T, h => List.mem_cons_of_mem _ (findC_mem (H := H) h)

theorem SH.mem {w0 w : World} {L : List Asn} {b : Nat} {o : Obj} (hm : objA b o ∈ L) (h : SH w0 w L) : w.heap[b]? = some o := by
  obtain ⟨S, hS⟩ := sats_mem hm h.sat
  exact hS.1

def isAggD : TypeDesc → Bool
  | .struct _ | .array _ _ => true
  | _ => false
def loadS (P : Program) (bs : List Nat) (H : List HE) (T : TypeId) (k off : Nat) : Option SV :=
  match findC H k with
  | none => none
  | some (cs, _) =>
    match P.underlying T with
    | none => none
    | some d =>
      match P.info? T with
      | none => none
      | some i => bif isAggD d then (bif Nat.ble (off + i.size) cs.length then some (.v (.agg (((cs.drop off).take i.size).map (SV.den bs)).toArray)) else none) else cs[off]?

theorem run_loadAt_one {P : Program} {w : World} {T : TypeId} {b off : Nat} {v : Value} {d : TypeDesc} (hT : P.underlying T = some d) (hd : isAggD d = false) (hc : w.cell? ⟨b, off, none⟩ = some v) :
    (Instr.loadAt T (.pointer (some ⟨b, off, none⟩))).run P w = .ok v w := by
  have h2 : (underlying T).run P w = .ok d w := by simp [underlying, hT]
  cases d <;> first | (simp [isAggD] at hd; done) | simp [Instr.loadAt, Instr.sureAddr, loadVar, isAgg, h2, run_load, hc]
theorem run_loadAt_agg {P : Program} {w : World} {T : TypeId} {b off : Nat} {cs : List Value} {d : TypeDesc} {i : TypeInfo} (hT : P.underlying T = some d) (hd : isAggD d = true) (hi : P.info? T = some i) (hs : cs.length = i.size)
    (hc : ∀ j v, cs[j]? = some v → w.cell? ((⟨b, off, none⟩ : Addr).add j) = some v) :
    (Instr.loadAt T (.pointer (some ⟨b, off, none⟩))).run P w = .ok (.agg cs.toArray) w := by
  have h2 : (underlying T).run P w = .ok d w := by simp [underlying, hT]
  have h3 : (Go.sizeOf T).run P w = .ok cs.length w := by simp [Go.sizeOf, typeInfo, hi, hs]
  have h4 := run_loadCells_list (P := P) w ⟨b, off, none⟩ cs hc
  cases d <;> first | (simp [isAggD] at hd; done) | simp [Instr.loadAt, Instr.sureAddr, loadVar, isAgg, h2, h3, h4]

theorem loadS_run {P : Program} {w0 w : World} {bs : List Nat} {H : List HE} {F : List Asn} {T : TypeId} {k off : Nat} {x : SV} (h : loadS P bs H T k off = some x) (hw : SH w0 w (hden bs H ++ F)) :
    (Instr.loadAt T (SV.den bs (.p k off))).run P w = .ok (x.den bs) w := by
  unfold loadS at h
  cases hf : findC H k with
  | none => simp [hf] at h
  | some r =>
    obtain ⟨cs, U⟩ := r
    have hb : w.heap[bs.getD k 0]? = some (.cells (cs.map (SV.den bs)).toArray U (0, 0)) := SH.mem (List.mem_append_left _ (findC_mem hf)) hw
    have hcell : ∀ (o : Nat) (y : SV), cs[o]? = some y → w.cell? ⟨bs.getD k 0, o, none⟩ = some (y.den bs) := by
      intro o y hy
      unfold World.cell?
      rw [hb]
      simp [hy]
    simp only [hf] at h
    cases hu : P.underlying T with
    | none => simp [hu] at h
    | some d =>
      cases hi : P.info? T with
      | none => simp [hu, hi] at h
      | some i =>
        simp only [hu, hi] at h
        cases hd : isAggD d with
        | false =>
          simp only [hd, cond_false] at h
          exact run_loadAt_one hu hd (hcell _ _ h)
        | true =>
          simp only [hd, cond_true] at h
          cases hle : Nat.ble (off + i.size) cs.length with
          | false => simp [hle] at h
          | true =>
            simp only [hle, cond_true, Option.some.injEq] at h
            subst h
            have hle' : off + i.size ≤ cs.length := Nat.le_of_ble_eq_true hle
            refine run_loadAt_agg hu hd hi (by simp; omega) fun j v hv => ?_
            have hadd : (⟨bs.getD k 0, off, none⟩ : Addr).add j = ⟨bs.getD k 0, off + j, none⟩ := by unfold Addr.add; split <;> simp_all
            rw [hadd]
            simp only [List.getElem?_map, List.getElem?_take, List.getElem?_drop, Option.map_eq_some_iff] at hv
            obtain ⟨y, hy, rfl⟩ := hv
            split at hy
            · exact hcell _ _ hy
            · cases hy

def fieldOff (P : Program) (T : TypeId) (f : Nat) : Option Nat :=
  match P.underlying T with
  | some (.struct fs) =>
    match fs[f]? with
    | some fd =>
      match P.info? fd.type with
      | some i => bif Nat.beq i.size 0 then none else some fd.offset
      | none => none
    | none => none
  | _ => none
theorem fieldOff_run {P : Program} {T : TypeId} {f d : Nat} (h : fieldOff P T f = some d) (b off : Nat) (w : World) :
    (Instr.fieldAt T (.pointer (some ⟨b, off, none⟩)) f).run P w = .ok (.pointer (some ⟨b, off + d, none⟩)) w := by
  unfold fieldOff at h
  split at h
  · rename_i fs hu
    split at h
    · rename_i fd hfd
      split at h
      · rename_i i hi
        cases hz : Nat.beq i.size 0 with
        | true => simp [hz] at h
        | false =>
          simp only [hz, cond_false, Option.some.injEq] at h
          subst h
          have hne : i.size ≠ 0 := fun e => by rw [e] at hz; cases hz
          have hadd : (⟨b, off, none⟩ : Addr).add fd.offset = ⟨b, off + fd.offset, none⟩ := by unfold Addr.add; split <;> simp_all
          simp [Instr.fieldAt, Instr.sureAddr, underlying, hu, hfd, fieldPlace, Go.sizeOf, typeInfo, hi, hne, hadd]
      · cases h
    · cases h
  · cases h

/-- The value of an operation that leaves the world alone: by a hint, by the known cells, or by what looks at no world. -/
def qop (P : Program) (bs : List Nat) (H : List HE) (env : SEnv) (hint : Option SV) (o : Oper) : Option SV :=
  let gen : Option SV := match pureRun P (execOp (evE bs env) o) with
    | some (.value v) => some (.v v)
    | _ => none
  match hint with
  | some x => some x
  | none =>
    match o.op with
    | .move x | .assign x => opdE env x
    | .nilCheck x => match opdE env x with
      | some (.p k off) => some (.p k off)
      | _ => gen
    | .fieldAddr T x f => match opdE env x with
      | some (.p k off) => (fieldOff P T f).map fun d => .p k (off + d)
      | _ => gen
    | .load T x => match opdE env x with
      | some (.p k off) => loadS P bs H T k off
      | _ => none
    | .pick c x y => match opdE env c with
      | some (.v (.bool true)) => opdE env x
      | some (.v (.bool false)) => opdE env y
      | _ => gen
    | _ => gen

def knownB (env : SEnv) (o : Oper) : Bool := o.op.operands.all (fun x => (opdE env x).isSome)

/-- What a hint owes. -/
def obOk (P : Program) (w0 : World) (L : List Asn) (ob : Sem Next × Value) : Prop := ∀ F w, SH w0 w (L ++ F) → ob.1.run P w = .ok (.value ob.2) w

theorem qop_run {P : Program} {n : NN} {w0 w : World} {bs : List Nat} {H : List HE} {F : List Asn} {env : SEnv} {hint : Option SV} {o : Oper} {x : SV} {a : Act}
    (hk : knownB env o = true) (hsel : ∀ cs b, o.op ≠ .select cs b) (h : qop P bs H env hint o = some x) (hob : ∀ y, hint = some y → obOk P w0 (hden bs H ++ F) (execOp (evE bs env) o, y.den bs))
    {F' : List Asn} (hm : Mt n bs env a) (hw' : SH w0 w ((hden bs H ++ F) ++ F')) : (execOp a.eval o).run P w = .ok (.value (x.den bs)) w := by
  have hw : SH w0 w (hden bs H ++ (F ++ F')) := by rw [← List.append_assoc]; exact hw'
  have hev : ∀ y ∈ o.op.operands, a.eval y = evE bs env y := fun y hy => hm.ev (by
    have := Array.all_eq_true_iff_forall_mem.1 hk y hy
    exact this)
  have hcong := execOp_congr (ρ := a.eval) (ρ' := evE bs env) o hsel hev
  have hgen : ∀ y, (match pureRun P (execOp (evE bs env) o) with | some (.value v) => some (SV.v v) | _ => none) = some y → (execOp a.eval o).run P w = .ok (.value (y.den bs)) w := by
    intro y hy
    split at hy
    · rename_i v hv
      cases hy
      rw [hcong, pureRun_run hv w]
      rfl
    · cases hy
  have hop : ∀ (z : Operand) (y : SV), opdE env z = some y → a.eval z = y.den bs := fun z y hz => hm.opd hz
  unfold qop at h
  cases hint with
  | some y =>
    simp only [Option.some.injEq] at h
    subst h
    rw [hcong]
    exact hob y rfl F' w hw'
  | none =>
    obtain ⟨dst, op, ty, pos, after, guard⟩ := o
    cases op <;> simp only at h
    case move z => simp [execOp, hop z x h]
    case assign z => simp [execOp, hop z x h]
    case pick c y z =>
      split at h
      · rename_i hc; simp [execOp, hop c _ hc, SV.den, asBool, hop y x h]
      · rename_i hc; simp [execOp, hop c _ hc, SV.den, asBool, hop z x h]
      · exact hgen _ h
    case nilCheck z =>
      split at h
      · rename_i k off hz
        cases h
        simp [execOp, hop z _ hz, SV.den]
      · exact hgen _ h
    case fieldAddr T z f =>
      split at h
      · rename_i k off hz
        simp only [Option.map_eq_some_iff] at h
        obtain ⟨d, hd, rfl⟩ := h
        simp [execOp, hop z _ hz, SV.den, fieldOff_run hd]
      · exact hgen _ h
    case load T z =>
      split at h
      · rename_i k off hz
        simp only [execOp, hop z _ hz, Sem.run_bind, loadS_run h hw, Result.andThen_ok, Sem.run_pure]
      · cases h
    all_goals exact hgen _ h
end Fw
