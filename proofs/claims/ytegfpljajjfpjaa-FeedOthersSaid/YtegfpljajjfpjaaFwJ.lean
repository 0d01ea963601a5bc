import Derived.Test.YtegfpljajjfpjaaFwI
import Derived.Laws.Append
import Derived.Laws.AppendOwn
set_option linter.unusedVariables false
/-! ## 8. Slices -/
namespace Fw
open Go
/-- How elements lie in cells. -/
structure Enc (α : Type) where
  sz : Nat
  enc : α → List Value
  len : ∀ x, (enc x).length = sz
  one : ∀ x, ∀ v ∈ enc x, v.oneCell' = true
  pos : 0 < sz
def eI (k : IntKind) : Enc Int := ⟨1, fun x => [.int k x], fun _ => rfl, fun _ v hv => by simp at hv; subst hv; rfl, by decide⟩
def eB : Enc Bool := ⟨1, fun x => [.bool x], fun _ => rfl, fun _ v hv => by simp at hv; subst hv; rfl, by decide⟩
def eS : Enc ByteArray := ⟨1, fun x => [.string x], fun _ => rfl, fun _ v hv => by simp at hv; subst hv; rfl, by decide⟩
def cellsL {α : Type} (E : Enc α) (L : List α) : List Value := L.flatMap E.enc
section
variable {α : Type} {E : Enc α}
theorem cellsL_len : ∀ (L : List α), (cellsL E L).length = L.length * E.sz
  | [] => by simp [cellsL]
  | x :: L => by
    have := cellsL_len L
    simp only [cellsL, List.flatMap_cons, List.length_append, E.len, List.length_cons] at *
    rw [this, Nat.add_mul]; omega
theorem cellsL_append (L M : List α) : cellsL E (L ++ M) = cellsL E L ++ cellsL E M := by simp [cellsL]
theorem cellsL_one {L : List α} {v : Value} (h : v ∈ cellsL E L) : v.oneCell' = true := by
  simp only [cellsL, List.mem_flatMap] at h
  obtain ⟨x, _, hv⟩ := h
  exact E.one x v hv
theorem cellsL_at : ∀ {L : List α} {i : Nat} {y : α}, L[i]? = some y → ∀ j v, (E.enc y)[j]? = some v → (cellsL E L)[i * E.sz + j]? = some v
  | [], i, y, h, _, _, _ => by simp at h
  | x :: L, 0, y, h, j, v, hv => by
    simp only [List.getElem?_cons_zero, Option.some.injEq] at h
    subst h
    simp only [cellsL, List.flatMap_cons, Nat.zero_mul, Nat.zero_add]
    have hj : j < (E.enc x).length := (List.getElem?_eq_some_iff.1 hv).1
    rw [List.getElem?_append_left hj]
    exact hv
  | x :: L, i + 1, y, h, j, v, hv => by
    have ih := cellsL_at (L := L) (i := i) (y := y) (by simpa using h) j v hv
    simp only [cellsL, List.flatMap_cons] at *
    rw [List.getElem?_append_right (by rw [E.len, Nat.add_mul]; omega), E.len]
    rw [show (i + 1) * E.sz + j - E.sz = i * E.sz + j by rw [Nat.add_mul]; omega]
    exact ih

def elP (A : Option Addr) (k : Nat) : Value := match A with
  | some a => .pointer (some (a.add k))
  | none => undef

/-- The elements of a slice can be read wherever the list holds. -/
def RowT (w0 : World) (Ls : List Asn) (E : Enc α) (A : Option Addr) (c : Nat) (L : List α) : Prop :=
  ∀ F' w, SH w0 w (Ls ++ F') → L.length ≤ c ∧ ∀ j v, (cellsL E L)[j]? = some v → ∃ a, A = some a ∧ w.cell? (a.add j) = some v
theorem RowT.app {w0 : World} {X F : List Asn} {A : Option Addr} {c : Nat} {L : List α} (h : RowT w0 F E A c L) : RowT w0 (X ++ F) E A c L := fun F' w hs =>
  h F' w (by rw [List.append_assoc] at hs; exact hs.drop)
theorem RowT.nil {w0 : World} {X : List Asn} {A : Option Addr} {c : Nat} : RowT w0 X E A c ([] : List α) := fun F' w hs => ⟨Nat.zero_le _, fun j v hv => by simp [cellsL] at hv⟩

/-- A slice that is owned: elements of type U. -/
def slA (U : TypeId) (E : Enc α) (A : Option Addr) (c : Nat) (L : List α) : Asn where
  sat h S := (A = none ∧ L = [] ∧ c = 0 ∧ ∀ k, ¬ S k) ∨
    ∃ g off cs, A = some ⟨g, off, none⟩ ∧ h[g]? = some (.cells cs U (0, 0)) ∧ L.length ≤ c ∧ c ≤ maxLen ∧ off + c * E.sz ≤ cs.size ∧ (∀ (j : Nat) v, (cellsL E L)[j]? = some v → cs[off + j]? = some v) ∧ ∀ k, S k ↔ k = g
  loc := by
    rintro h h' S (hn | ⟨g, off, cs, h1, h2, h3, h4, h5, h6, h7⟩) hs
    · exact .inl hn
    · exact .inr ⟨g, off, cs, h1, (hs g ((h7 g).2 rfl)).trans h2, h3, h4, h5, h6, h7⟩
  lt := by
    rintro h S (⟨_, _, _, hn⟩ | ⟨g, off, cs, h1, h2, h3, h4, h5, h6, h7⟩) k hk
    · exact absurd hk (hn k)
    · rw [(h7 k).1 hk]; exact (Array.getElem?_eq_some_iff.1 h2).1

theorem add_lit (g off j : Nat) : (⟨g, off, none⟩ : Addr).add j = ⟨g, off + j, none⟩ := by unfold Addr.add; split <;> simp_all
theorem add_add (a : Addr) (j k : Nat) : (a.add j).add k = a.add (j + k) := by
  unfold Addr.add
  by_cases hj : j = 0
  · subst hj; simp
  · by_cases hk : k = 0
    · subst hk; simp [hj]
    · simp [hj, hk, Nat.add_assoc]

theorem row_at {w0 : World} {Ls : List Asn} {U : TypeId} {A : Option Addr} {c : Nat} {L : List α} (i : Nat) (h : Ls[i]? = some (slA U E A c L)) : RowT w0 Ls E A c L := by
  intro F' w hs
  obtain ⟨S, hS⟩ := sats_mem (List.mem_append_left F' (List.mem_of_getElem? h)) hs.sat
  rcases hS with ⟨_, rfl, _⟩ | ⟨g, off, cs, h1, h2, h3, h4, h5, h6, h7⟩
  · exact ⟨Nat.zero_le _, fun j v hv => by simp [cellsL] at hv⟩
  · refine ⟨h3, fun j v hv => ⟨_, h1, ?_⟩⟩
    rw [add_lit]
    simp only [World.cell?, h2]
    simpa using h6 j v hv
theorem SH.nilSl {w0 w : World} {U : TypeId} {Ls : List Asn} (h : SH w0 w Ls) : SH w0 w (slA U E none 0 ([] : List α) :: Ls) :=
  ⟨h.os, h.tape, h.output, fun _ => False, .inl ⟨rfl, rfl, rfl, fun _ h => h⟩, fun _ h => h.elim, sats_mono (fun _ hb => hb.elim id False.elim) h.sat⟩

theorem idx_spec {L : List α} {i : Int} {y : α} (h : idx L i = some y) : 0 ≤ i ∧ i < (L.length : Int) ∧ L[i.toNat]? = some y := by
  unfold idx at h
  split at h
  · rename_i h0
    have := (List.getElem?_eq_some_iff.1 h).1
    exact ⟨h0, by omega, h⟩
  · cases h

section
variable {P : Program} {w0 : World} {Ls : List Asn} {A : Option Addr} {c : Nat} {L : List α} {i : Int} {y : α}
theorem row_some (hR : RowT w0 Ls E A c L) (hy : idx L i = some y) (F' : List Asn) (w : World) (hs : SH w0 w (Ls ++ F')) : ∃ a, A = some a ∧ ∀ j v, (E.enc y)[j]? = some v → w.cell? (a.add (i.toNat * E.sz + j)) = some v := by
  obtain ⟨h0, h1, h2⟩ := idx_spec hy
  have hp := E.pos
  have hlen := E.len y
  obtain ⟨v0, hv0⟩ : ∃ v, (E.enc y)[0]? = some v := ⟨(E.enc y)[0]'(by omega), by simp [List.getElem?_eq_getElem (show 0 < (E.enc y).length by omega)]⟩
  obtain ⟨a, ha, _⟩ := (hR F' w hs).2 _ _ (cellsL_at h2 0 v0 hv0)
  refine ⟨a, ha, fun j v hv => ?_⟩
  obtain ⟨a', ha', hc⟩ := (hR F' w hs).2 _ _ (cellsL_at h2 j v hv)
  rw [ha] at ha'
  cases ha'
  exact hc
theorem ob_ia {T U : TypeId} {k : IntKind} {sz : Nat} (hT : P.underlying T = some (.slice U)) (hU : (P.info? U).map (·.size) = some sz) (hz : E.sz = sz) (hR : RowT w0 Ls E A c L) (hy : idx L i = some y) :
    obOk P w0 Ls (smIa T (.slice A L.length c) (.int k i), elP A (i.toNat * sz + 0)) := fun F' w hs => by
  obtain ⟨a, rfl, _⟩ := row_some hR hy F' w hs
  obtain ⟨h0, h1, _⟩ := idx_spec hy
  obtain ⟨ti, hti, rfl⟩ := Option.map_eq_some_iff.1 hU
  have h2 : (underlying T).run P w = .ok (.slice U) w := by simp [underlying, hT]
  have h3 : (Go.sizeOf U).run P w = .ok ti.size w := by simp [Go.sizeOf, typeInfo, hti]
  simp [smIa, Instr.indexAt, asIntOf, h2, h0, h1, h3, elP]
theorem ob_fa {S : TypeId} {f o d sz : Nat} (hf : fieldOff P S f = some d) (_hz : E.sz = sz) (hR : RowT w0 Ls E A c L) (hy : idx L i = some y) :
    obOk P w0 Ls (smFa S (elP A (i.toNat * sz + o)) f, elP A (i.toNat * sz + (o + d))) := fun F' w hs => by
  obtain ⟨a, rfl, _⟩ := row_some hR hy F' w hs
  simp only [smFa, elP]
  have : (Instr.fieldAt S (.pointer (some (a.add (i.toNat * sz + o)))) f).run P w = .ok (.pointer (some ((a.add (i.toNat * sz + o)).add d))) w := by
    unfold fieldOff at hf
    split at hf
    · rename_i fs hu
      split at hf
      · rename_i fd hfd
        split at hf
        · rename_i ti hi
          cases hz : Nat.beq ti.size 0 with
          | true => simp [hz] at hf
          | false =>
            simp only [hz, cond_false, Option.some.injEq] at hf
            subst hf
            have hne : ti.size ≠ 0 := fun e => by rw [e] at hz; cases hz
            simp [Instr.fieldAt, Instr.sureAddr, underlying, hu, hfd, fieldPlace, Go.sizeOf, typeInfo, hi, hne]
        · cases hf
      · cases hf
    · cases hf
  simp only [Sem.run_bind, this, Result.andThen_ok, Sem.run_pure, add_add, Nat.add_assoc]
theorem ob_ld1 {T : TypeId} {o sz : Nat} {v : Value} {d : TypeDesc} (hT : P.underlying T = some d) (hd : isAggD d = false) (hz : E.sz = sz) (hv : (E.enc y)[o]? = some v) (hR : RowT w0 Ls E A c L) (hy : idx L i = some y) :
    obOk P w0 Ls (smLd T (elP A (i.toNat * sz + o)), v) := fun F' w hs => by
  obtain ⟨a, rfl, hc⟩ := row_some hR hy F' w hs
  subst hz
  have h := hc o v hv
  have h2 : (underlying T).run P w = .ok d w := by simp [underlying, hT]
  have : (Instr.loadAt T (.pointer (some (a.add (i.toNat * E.sz + o))))).run P w = .ok v w := by
    cases d <;> first | (simp [isAggD] at hd; done) | simp [Instr.loadAt, Instr.sureAddr, loadVar, isAgg, h2, run_load, h]
  simp only [smLd, elP, Sem.run_bind, this, Result.andThen_ok, Sem.run_pure]
theorem ob_lda {T : TypeId} {o sz tz : Nat} {vs : List Value} {d : TypeDesc} (hT : P.underlying T = some d) (hd : isAggD d = true) (hU : (P.info? T).map (·.size) = some tz) (hz : E.sz = sz) (hl : vs.length = tz) (hv : ((E.enc y).drop o).take tz = vs) (hR : RowT w0 Ls E A c L) (hy : idx L i = some y) :
    obOk P w0 Ls (smLd T (elP A (i.toNat * sz + o)), .agg vs.toArray) := fun F' w hs => by
  obtain ⟨a, rfl, hc⟩ := row_some hR hy F' w hs
  subst hz
  obtain ⟨ti, hti, rfl⟩ := Option.map_eq_some_iff.1 hU
  have h2 : (underlying T).run P w = .ok d w := by simp [underlying, hT]
  have h3 : (Go.sizeOf T).run P w = .ok vs.length w := by simp [Go.sizeOf, typeInfo, hti, hl]
  have h4 := run_loadCells_list (P := P) w (a.add (i.toNat * E.sz + o)) vs (fun j v hjv => by
    rw [add_add, Nat.add_assoc]
    refine hc _ v ?_
    rw [← hv, List.getElem?_take, List.getElem?_drop] at hjv
    split at hjv
    · exact hjv
    · cases hjv)
  have : (Instr.loadAt T (.pointer (some (a.add (i.toNat * E.sz + o))))).run P w = .ok (.agg vs.toArray) w := by
    cases d <;> first | (simp [isAggD] at hd; done) | simp [Instr.loadAt, Instr.sureAddr, loadVar, isAgg, h2, h3, h4]
  simp only [smLd, elP, Sem.run_bind, this, Result.andThen_ok, Sem.run_pure]
end
end

/-! ### One new block, whatever makes it -/
def pureNew (P : Program) {α : Type} : Sem α → Option (Obj × (Nat → Option α))
  | .new o k => some (o, fun r => pureRun P (k r))
  | .program k => pureNew P (k P)
  | .mark _ k => pureNew P k
  | _ => none
theorem pureNew_run {P : Program} {α : Type} {m : Sem α} {o : Obj} {kf : Nat → Option α} (h : pureNew P m = some (o, kf)) (w : World) {x : α} (hx : kf w.heap.size = some x) : m.run P w = .ok x { w with heap := w.heap.push o } := by
  induction m with
  | new o' k ih =>
    simp only [pureNew, Option.some.injEq, Prod.mk.injEq] at h
    obtain ⟨rfl, rfl⟩ := h
    simp only [Sem.run]
    exact pureRun_run hx _
  | program k ih => exact ih _ h
  | mark m k ih => exact ih h
  | _ => simp [pureNew] at h

section
variable {P : Program} {n : NN} {w0 : World} {F : List Asn} {s : SS} {Q : Exit → Act → World → Prop}
/-- A slice literal. -/
theorem op_bslice {α : Type} {E : Enc α} {ops : Array Oper} {i : Nat} {K : Act → World → Prop} (T U : TypeId) (m : Nat) (parts : Array (Nat × Operand)) (d : Tmp) (L : List α)
    (ho : opAt ops s.env i = some (.buildSlice T m parts, some d, some true)) (hk : (parts.map (·.2)).all (fun x => (opdE s.env x).isSome) = true) (hd : Nat.blt d n.n = true) (hm : L.length = m) (hmax : m ≤ maxLen)
    (hnew : pureNew P (Instr.buildSlice T m (parts.map fun p => (p.1, evE s.bs s.env p.2))) = some (.cells (cellsL E L).toArray U (0, 0), fun r => some (.slice (some ⟨r, 0, none⟩) m m)))
    (h : ∀ b, Fin n w0 F ⟨s.bs, (d, .v (.slice (some ⟨b, 0, none⟩) m m)) :: s.env, .a (slA U E (some ⟨b, 0, none⟩) m L) :: s.heap⟩ K) : Rop P n w0 F ops Q i s K := by
  refine rop_of ho fun o a w h1 h2 hs => ?_
  have hmap : (parts.map fun p => (p.1, a.eval p.2)) = (parts.map fun p => (p.1, evE s.bs s.env p.2)) := Array.map_congr_left fun p hp => by
    rw [hs.mt.ev (Array.all_eq_true_iff_forall_mem.1 hk p.2 (Array.mem_map.2 ⟨p, hp, rfl⟩))]
  have hrun : (execOp a.eval o).run P w = .ok (.value (.slice (some ⟨w.heap.size, 0, none⟩) m m)) { w with heap := w.heap.push (.cells (cellsL E L).toArray U (0, 0)) } := by
    have := pureNew_run hnew w rfl
    simp only [execOp, h1, Sem.run_bind]
    show Result.andThen (Sem.run P (Instr.buildSlice T m (parts.map fun p => (p.1, a.eval p.2))) w) _ = _
    rw [hmap, this]
    rfl
  refine opwp_value hrun (h w.heap.size _ _ ⟨?_, ?_⟩)
  · rw [h2]
    exact hs.mt.put (dst := some d) (x := .v (.slice (some ⟨w.heap.size, 0, none⟩) m m)) (by simp only [putE, hd, cond_true])
  · have h3 := hs.sh.new (w' := { w with heap := w.heap.push (.cells (cellsL E L).toArray U (0, 0)) }) (o := .cells (cellsL E L).toArray U (0, 0)) rfl rfl rfl rfl
    obtain ⟨S, hS, hX, hr⟩ := h3.sat
    refine ⟨h3.os, h3.tape, h3.output, S, .inr ⟨w.heap.size, 0, _, rfl, hS.1, by omega, hmax, ?_, fun j v hv => by simpa using hv, hS.2⟩, hX, hr⟩
    simp [cellsL_len, hm]

/-- What append takes as its second argument: n elements, of the cells news. -/
structure ApArg (P : Program) (w : World) (u : TypeId) (Y : Value) (size n : Nat) (news : List Value) : Prop where
  ty : (∃ e, P.underlying u = some (.slice e)) ∨ P.underlying u = some .string
  len : ∀ w', (Builtin.lenOf Y).run P w' = .ok n w'
  cells : ∀ w', w'.heap = w.heap → (Builtin.firstCells size n Y).run P w' = .ok news.toArray w'
theorem cell_heap {w w' : World} (h : w'.heap = w.heap) (a : Addr) : w'.cell? a = w.cell? a := by unfold World.cell?; rw [h]
theorem ApArg.slice {w : World} {u e : TypeId} {B : Option Addr} {n c size : Nat} {news : List Value} (hu : P.underlying u = some (.slice e)) (hl : news.length = n * size) (hnews : ∀ j v, news[j]? = some v → ∃ a, B = some a ∧ w.cell? (a.add j) = some v) : ApArg P w u (.slice B n c) size n news := by
  refine ⟨.inl ⟨e, hu⟩, fun w' => by simp [Builtin.lenOf], fun w' hw' => ?_⟩
  rcases B with _ | a
  · cases news with
    | nil => simp [Builtin.firstCells]
    | cons v l => obtain ⟨_, h, _⟩ := hnews 0 v rfl; cases h
  · refine run_firstCells_some (P := P) w' size n a n c news hl fun j v hv => ?_
    obtain ⟨_, h, hc⟩ := hnews j v hv
    cases h
    rw [cell_heap hw']; exact hc
theorem ApArg.string {w : World} {u : TypeId} {s : ByteArray} (hu : P.underlying u = some .string) : ApArg P w u (.string s) 1 s.size (s.data.toList.map fun b => Value.int .u8 b.toNat) := by
  refine ⟨.inr hu, fun w' => by simp [Builtin.lenOf], fun w' _ => ?_⟩
  simp [Builtin.firstCells]
  apply Array.ext'
  simp
theorem run_append_room' {w : World} {t u ty e : TypeId} {i : TypeInfo} (ht : P.underlying t = some (.slice e)) (hi : P.info? e = some i)
    {g off sLen sCap m : Nat} {cur : Array Value} (hg : w.heap[g]? = some (.cells cur e (0, 0))) {Y : Value} {news : List Value} (hY : ApArg P w u Y i.size m news) (h1 : ∀ u ∈ news, u.oneCell' = true)
    (hroom : sLen + m ≤ sCap) (hfit : off + sLen * i.size + news.length ≤ cur.size) :
    (Builtin.append_ #[t, u] ty #[.slice (some ⟨g, off, none⟩) sLen sCap, Y]).run P w =
      .ok (.slice (some ⟨g, off, none⟩) (sLen + m) sCap) (w.setRow g (cur.toList.take (off + sLen * i.size) ++ news ++ cur.toList.drop (off + sLen * i.size + news.length)).toArray) := by
  have hf := hY.cells w rfl
  have hst := run_storeCells_at P g (off + sLen * i.size) e news 0 cur w hg (by simpa using hfit) h1
  simp only [Nat.add_zero] at hst
  have hln := hY.len w
  rcases hY.ty with ⟨e', hu⟩ | hu <;>
  simp [Builtin.append_, run_underlying ht, run_underlying hu, Go.sizeOf, typeInfo, hi, hln, hroom, hf, add_lit, hst]
theorem run_append_zero {w : World} {t u ty e : TypeId} {i : TypeInfo} (ht : P.underlying t = some (.slice e)) (hi : P.info? e = some i) {Y : Value} (hY : ApArg P w u Y i.size 0 []) (A : Option Addr) (sLen sCap : Nat) (h : sLen ≤ sCap) :
    (Builtin.append_ #[t, u] ty #[.slice A sLen sCap, Y]).run P w = .ok (.slice A sLen sCap) w := by
  have hf := hY.cells w rfl
  have hln := hY.len w
  rcases hY.ty with ⟨e', hu⟩ | hu <;>
  cases A <;> simp [Builtin.append_, run_underlying ht, run_underlying hu, Go.sizeOf, typeInfo, hi, hln, h, hf, storeCells]
theorem run_append_nil' {w : World} {t u ty e : TypeId} {i : TypeInfo} {z : Value} (ht : P.underlying t = some (.slice e)) (hi : P.info? e = some i) (hz : i.zero = some z)
    {Y : Value} {n : Nat} {news : List Value} (hY : ApArg P w u Y i.size n news) (h0 : 0 < n) (h63 : (n : Int) ≤ 9223372036854775807) (h48 : n * i.bytes ≤ 281474976710656) :
    (Builtin.append_ #[t, u] ty #[.slice none 0 0, Y]).run P w =
      .ok (.slice (some ⟨w.heap.size, 0, none⟩) n (grownCap w n 0 e)) (w.drew.alloc (.cells (news.toArray ++ Builtin.zeroCells z.cells (grownCap w n 0 e - n)) e)) := by
  have hn : n ≠ 0 := by omega
  have h63' : ¬ (9223372036854775807 < (n : Int)) := by omega
  have h48' : ¬ (281474976710656 < Builtin.nextslicecap n 0 * i.bytes) := by rw [nextslicecap_zero h0]; omega
  have hf := hY.cells w.drew rfl
  have hln := hY.len w
  rcases hY.ty with ⟨e', hu⟩ | hu <;>
  simp [Builtin.append_, run_underlying ht, run_underlying hu, Go.sizeOf, typeInfo, zeroValue, hi, hz, hln, hn, h63', h48', Question.forced, run_firstCells_none, hf, newRow, grownCap]
theorem run_append_grow' {w : World} {t u ty e : TypeId} {i : TypeInfo} {z : Value} (ht : P.underlying t = some (.slice e)) (hi : P.info? e = some i) (hz : i.zero = some z)
    (b : Addr) (sLen sCap : Nat) (olds : List Value) (hlo : olds.length = sLen * i.size) (holds : ∀ j v, olds[j]? = some v → w.cell? (b.add j) = some v)
    {Y : Value} {n : Nat} {news : List Value} (hY : ApArg P w u Y i.size n news)
    (hg : sCap < sLen + n) (h63 : ((sLen + n : Nat) : Int) ≤ 9223372036854775807) (hfit : Builtin.nextslicecap (sLen + n) sCap * i.bytes ≤ 281474976710656) :
    (Builtin.append_ #[t, u] ty #[.slice (some b) sLen sCap, Y]).run P w =
      .ok (.slice (some ⟨w.heap.size, 0, none⟩) (sLen + n) (grownCap w (sLen + n) sCap e))
        (w.drew.alloc (.cells (olds.toArray ++ news.toArray ++ Builtin.zeroCells z.cells (grownCap w (sLen + n) sCap e - (sLen + n))) e)) := by
  have hn : ¬ (sLen + n ≤ sCap) := by omega
  have h63' : ¬ (9223372036854775807 < ((sLen : Int) + (n : Int))) := by omega
  have h48' : ¬ (281474976710656 < Builtin.nextslicecap (sLen + n) sCap * i.bytes) := by omega
  have hf := hY.cells w.drew rfl
  have hln := hY.len w
  have hfo := run_firstCells_some (P := P) w.drew i.size sLen b sLen sCap olds hlo (by simpa using holds)
  rcases hY.ty with ⟨e', hu⟩ | hu <;>
  · simp [Builtin.append_, run_underlying ht, run_underlying hu, Go.sizeOf, typeInfo, zeroValue, hi, hz, hln, hn, h63', h48', Question.forced, hf, hfo, newRow, grownCap]
    congr 2
    apply Array.ext'
    simp [List.append_assoc]

theorem drewHeap (w : World) (o : Obj) : (w.drew.alloc o).heap = w.heap.push o := rfl

theorem append_run {α : Type} {E : Enc α} {w : World} {t ty U : TypeId} {ti : TypeInfo} {z : Value} {u : TypeId} {Y : Value} {A : Option Addr} {c : Nat} {L M : List α} {R : List Asn} (ht : P.underlying t = some (.slice U)) (hi : P.info? U = some ti) (hz : ti.zero = some z) (hs : ti.size = E.sz) (hzs : z.cells.size = E.sz)
    (hlim : (L.length + M.length) * ti.bytes ≤ 140737488355328) (hb : L.length + M.length ≤ maxLen) (hw : SH w0 w (slA U E A c L :: R)) (hY : ApArg P w u Y ti.size M.length (cellsL E M)) :
    ∃ A' c' w', (Builtin.append_ #[t, u] ty #[.slice A L.length c, Y]).run P w = .ok (.slice A' (L ++ M).length c') w' ∧ SH w0 w' (slA U E A' c' (L ++ M) :: R) := by
  obtain ⟨S, hS, hX, hr⟩ := hw.sat
  have hb' : L.length + M.length ≤ 9223372036854775807 := by simp only [maxLen] at hb; omega
  by_cases hM0 : M = []
  · subst hM0
    refine ⟨A, c, w, ?_, by simpa using hw⟩
    rw [List.append_nil]
    refine run_append_zero ht hi hY A L.length c ?_
    rcases hS with ⟨rfl, rfl, rfl, _⟩ | ⟨g, off, cs, h1, h2, h3, _⟩
    · simp
    · exact h3
  · have hMpos : 0 < M.length := List.length_pos_iff.2 hM0
    have hcl : 0 < (cellsL E M).length := by rw [cellsL_len]; exact Nat.mul_pos hMpos E.pos
    have hlM : (cellsL E M).length = M.length * ti.size := by rw [cellsL_len, hs]
    have grown : ∀ old, old < L.length + M.length → ∀ rest : Array Value, rest.size = (grownCap w (L.length + M.length) old U - (L.length + M.length)) * E.sz →
        SH w0 (w.drew.alloc (.cells ((cellsL E L).toArray ++ (cellsL E M).toArray ++ rest) U)) (slA U E (some ⟨w.heap.size, 0, none⟩) (grownCap w (L.length + M.length) old U) (L ++ M) :: R) := by
      intro old _ rest hrest
      have hge := grownCap_ge w (L.length + M.length) old U
      have hcm := grownCap_le_maxLen w (L.length + M.length) old U hb
      have h4 := (hw.tail).new (w' := w.drew.alloc (.cells ((cellsL E L).toArray ++ (cellsL E M).toArray ++ rest) U)) (o := .cells ((cellsL E L).toArray ++ (cellsL E M).toArray ++ rest) U (0, 0)) rfl rfl rfl (drewHeap _ _)
      obtain ⟨S', hS', hX', hr'⟩ := h4.sat
      refine ⟨h4.os, h4.tape, h4.output, S', .inr ⟨w.heap.size, 0, _, rfl, hS'.1, by simpa using hge, hcm, ?_, fun j v hv => ?_, hS'.2⟩, hX', hr'⟩
      · simp only [Array.size_append, List.size_toArray, cellsL_len, hrest, Nat.zero_add, ← Nat.add_mul]
        exact Nat.mul_le_mul_right _ (by omega)
      · rw [Nat.zero_add, cellsL_append] at *
        have hj := (List.getElem?_eq_some_iff.1 hv).1
        rw [Array.getElem?_append_left (by simpa using hj)]
        rw [← hv]
        simp
    have hzz : ∀ k, (Builtin.zeroCells z.cells k).size = k * E.sz := fun k => by rw [size_zeroCells, hzs]
    rcases hS with ⟨rfl, rfl, rfl, hn⟩ | ⟨g, off, cs, rfl, hg, h3, h4, h5, h6, h7⟩
    · have hr1 := run_append_nil' (P := P) (ty := ty) ht hi hz hY hMpos (by simp at hb'; omega) (by have := hlim; simp only [List.length_nil, Nat.zero_add] at this; omega)
      have hgr := grown 0 (by simpa using hMpos) _ (hzz _)
      have e0 : (cellsL E ([] : List α)).toArray = #[] := rfl
      rw [e0] at hgr
      simp only [List.length_nil, Nat.zero_add, List.nil_append, Array.empty_append] at hgr
      refine ⟨_, _, _, hr1.trans ?_, hgr⟩
      simp
    · by_cases hroom : L.length + M.length ≤ c
      · have hfit : off + L.length * ti.size + (cellsL E M).length ≤ cs.size := by
          rw [hlM, hs, Nat.add_assoc, ← Nat.add_mul]
          exact Nat.le_trans (Nat.add_le_add_left (Nat.mul_le_mul_right _ hroom) off) h5
        have hr1 := run_append_room' (P := P) (ty := ty) ht hi hg hY (fun u hu => cellsL_one hu) hroom hfit
        refine ⟨_, _, _, hr1.trans (by rw [List.length_append]), ?_⟩
        generalize hnew : (cs.toList.take (off + L.length * ti.size) ++ cellsL E M ++ cs.toList.drop (off + L.length * ti.size + (cellsL E M).length)).toArray = new at *
        have hsz : new.size = cs.size := by
          rw [← hnew]
          simp only [List.size_toArray, List.length_append, List.length_take, List.length_drop, Array.length_toList]
          omega
        refine ⟨hw.os, hw.tape, hw.output, S, .inr ⟨g, off, new, rfl, setRow_heap w g cs new U (0, 0) hg, by simpa using hroom, h4, by rw [hsz]; exact h5, fun j v hv => ?_, h7⟩, hX, sats_change hr fun k hk _ => setRow_other w g k new fun e => hk (.inr ((h7 k).2 e))⟩
        rw [cellsL_append] at hv
        rw [← hnew]
        simp only [List.getElem?_toArray]
        by_cases hj : j < (cellsL E L).length
        · rw [List.getElem?_append_left hj] at hv
          have := h6 j v hv
          rw [List.append_assoc, List.getElem?_append_left (by
            simp only [List.length_take, Array.length_toList]
            rw [cellsL_len, ← hs] at hj
            omega), List.getElem?_take, if_pos (by rw [cellsL_len, ← hs] at hj; omega)]
          simpa using this
        · rw [List.getElem?_append_right (by omega)] at hv
          have hj2 := (List.getElem?_eq_some_iff.1 hv).1
          have hlt : (List.take (off + L.length * ti.size) cs.toList).length = off + L.length * ti.size := by
            simp only [List.length_take, Array.length_toList]; omega
          rw [cellsL_len, ← hs] at hj hv
          rw [List.append_assoc, List.getElem?_append_right (by omega), hlt, List.getElem?_append_left (by rw [cellsL_len, ← hs] at hj2; omega)]
          rw [← hv]
          congr 1
          omega
      · have holds : ∀ j v, (cellsL E L)[j]? = some v → w.cell? ((⟨g, off, none⟩ : Addr).add j) = some v := fun j v hv => by
          rw [add_lit]
          simp only [World.cell?, hg]
          simpa using h6 j v hv
        have hr1 := run_append_grow' (P := P) (ty := ty) ht hi hz ⟨g, off, none⟩ L.length c (cellsL E L) (by rw [cellsL_len, hs]) holds hY (by omega) (by omega) (growslice_fits (by omega) hlim)
        have hgr := grown c (by omega) _ (hzz _)
        exact ⟨_, _, _, hr1.trans (by rw [List.length_append]), hgr⟩

/-- L and M, one behind the other, if there is room for so many. -/
def cat {α : Type} (n : Nat) (L M : List α) : Option (List α) := if L.length + M.length ≤ n then some (L ++ M) else none
theorem cat_some {α : Type} {n : Nat} {L M y : List α} (h : cat n L M = some y) : y = L ++ M ∧ L.length + M.length ≤ n := by
  unfold cat at h
  split at h
  · cases h; exact ⟨rfl, ‹_›⟩
  · cases h
theorem op_append {α : Type} {E : Enc α} {ops : Array Oper} {i : Nat} {K : Act → World → Prop} (t u U : TypeId) (x y : Operand) (d : Tmp) (A : Option Addr) (Y : Value) (c : Nat) (L M : List α) {r : List α} {lim : Nat} (ti : TypeInfo) (z : Value) (j : Nat) (H : List HE)
    (ho : opAt ops s.env i = some (.call { callee := .builtin .append, args := #[x, y], argTypes := #[t, u] }, some d, some true)) (hx : opdE s.env x = some (.v (.slice A L.length c))) (hy : opdE s.env y = some (.v Y)) (hd : Nat.blt d n.n = true)
    (ht : P.underlying t = some (.slice U)) (hi : P.info? U = some ti) (hz : ti.zero = some z) (hs : ti.size = E.sz) (hzs : z.cells.size = E.sz)
    (hlim : lim * ti.bytes ≤ 140737488355328) (hlm : lim ≤ maxLen) (hr : cat lim L M = some r) (hp : picked [j] (hden s.bs s.heap) = slA U E A c L :: hden s.bs H) (hM : ∀ w, SH w0 w (hden s.bs s.heap ++ F) → ApArg P w u Y ti.size M.length (cellsL E M))
    (h : ∀ A' c', Fin n w0 F ⟨s.bs, (d, .v (.slice A' r.length c')) :: s.env, .a (slA U E A' c' r) :: H⟩ K) : Rop P n w0 F ops Q i s K := by
  refine rop_of ho fun o a w h1 h2 hst => ?_
  obtain ⟨rfl, hl⟩ := cat_some hr
  have h3 : SH w0 w (slA U E A c L :: (hden s.bs H ++ F)) := by
    have := hst.sh.perm ((picked_perm [j] _).append_right F)
    rw [hp] at this
    exact this
  obtain ⟨A', c', w', hr, hsh⟩ := append_run (P := P) (ty := o.type) ht hi hz hs hzs (Nat.le_trans (Nat.mul_le_mul_right _ hl) hlim) (Nat.le_trans hl hlm) h3 (hM w hst.sh)
  have hrun : (execOp a.eval o).run P w = .ok (.value (.slice A' (L ++ M).length c')) w' := by
    simp only [execOp, h1, resolve, invoke, builtin, Sem.run_bind, Sem.run_pure, Result.andThen_ok, List.map_toArray, List.map_cons, List.map_nil, hst.mt.opd hx, hst.mt.opd hy, SV.den, hr]
  refine opwp_value hrun (h A' c' _ _ ⟨?_, hsh⟩)
  rw [h2]
  exact hst.mt.put (dst := some d) (x := .v (.slice A' (L ++ M).length c')) (by simp only [putE, hd, cond_true])
theorem ap_sl {α : Type} {E : Enc α} {Ls : List Asn} {u e : TypeId} {B : Option Addr} {c sz : Nat} {M : List α} (hu : P.underlying u = some (.slice e)) (hs : sz = E.sz) (hM : RowT w0 (Ls ++ F) E B c M) (w : World) (hw : SH w0 w (Ls ++ F)) : ApArg P w u (.slice B M.length c) sz M.length (cellsL E M) :=
  ApArg.slice hu (by rw [cellsL_len, hs]) fun j v hv => (hM [] w (by rw [List.append_nil]; exact hw)).2 j v hv
/-- A string's bytes. -/
def sB (s : ByteArray) : List Int := s.data.toList.map fun b => (b.toNat : Int)
theorem ap_str {Ls : List Asn} {u : TypeId} {sz : Nat} {s : ByteArray} (hu : P.underlying u = some .string) (hs : sz = 1) (w : World) (_hw : SH w0 w (Ls ++ F)) : ApArg P w u (.string s) sz (sB s).length (cellsL (eI .u8) (sB s)) := by
  subst hs
  have e1 : (sB s).length = s.size := by simp [sB]
  have e2 : cellsL (eI .u8) (sB s) = s.data.toList.map fun b => Value.int .u8 b.toNat := by
    simp only [cellsL, sB, eI]
    induction s.data.toList with
    | nil => rfl
    | cons b l ih => simp only [List.map_cons, List.flatMap_cons, ih, List.singleton_append]
  rw [e1, e2]
  exact ApArg.string hu
end
end Fw
namespace Fw
open Go
theorem fin_nil {α : Type} (U : TypeId) (E : Enc α) {n : NN} {w0 : World} {F : List Asn} {s : SS} {K : Act → World → Prop} (h : Fin n w0 F ⟨s.bs, s.env, .a (slA U E none 0 ([] : List α)) :: s.heap⟩ K) : Fin n w0 F s K :=
  fun a w hs => h a w ⟨hs.mt, hs.sh.nilSl⟩
theorem rn_nil {α : Type} (U : TypeId) (E : Enc α) {P : Program} {n : NN} {w0 : World} {F : List Asn} {s : SS} {c : Code} {Q : Exit → Act → World → Prop} (h : Rn P n w0 F c ⟨s.bs, s.env, .a (slA U E none 0 ([] : List α)) :: s.heap⟩ Q) : Rn P n w0 F c s Q :=
  fun a w hs => h a w ⟨hs.mt, hs.sh.nilSl⟩
end Fw
