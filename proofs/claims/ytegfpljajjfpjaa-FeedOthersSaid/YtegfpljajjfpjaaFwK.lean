import Derived.Test.YtegfpljajjfpjaaFwJ
import Derived.ScopeJumps
import Derived.Laws.BytesString
set_option linter.unusedVariables false
/-! ## 9. Strings, parts of slices, scopes -/
namespace Fw
open Go
section
variable {P : Program} {w0 : World} {L : List Asn}
theorem bsl_spec {s r : ByteArray} {lo hi : Int} (h : bsl s lo hi = some r) : 0 ≤ lo ∧ lo ≤ hi ∧ hi ≤ (s.size : Int) ∧ r = s.extract lo.toNat hi.toNat := by
  unfold bsl at h
  split at h
  · split at h
    · cases h; rename_i h1 h2; exact ⟨h2.1, h2.2, h1.2, rfl⟩
    · cases h
  · cases h
theorem ob_bslLH {T : TypeId} {s r : ByteArray} {k k' : IntKind} {lo hi : Int} (hT : P.underlying T = some .string) (h : bsl s lo hi = some r) :
    obOk P w0 L (smSl T (.string s) (some (.int k lo)) (some (.int k' hi)) none, .string r) := fun _ w _ => by
  simp [smSl, bsl_run hT h]
theorem ob_bslL {T : TypeId} {s r : ByteArray} {k : IntKind} {lo : Int} (hT : P.underlying T = some .string) (h : bsl s lo (s.size : Int) = some r) :
    obOk P w0 L (smSl T (.string s) (some (.int k lo)) none none, .string r) := fun _ w _ => by
  obtain ⟨h1, h2, h3, rfl⟩ := bsl_spec h
  have hu : (underlying T).run P w = .ok .string w := by simp [underlying, hT]
  have e1 : ((lo.toNat : Nat) : Int) = lo := by omega
  simp [smSl, Instr.sliceAt, Instr.slice, Instr.sliceBounds, Instr.sliceBound, asIntOf, hu, h1, h2]
theorem ob_bslH {T : TypeId} {s r : ByteArray} {k : IntKind} {hi : Int} (hT : P.underlying T = some .string) (h : bsl s 0 hi = some r) :
    obOk P w0 L (smSl T (.string s) none (some (.int k hi)) none, .string r) := fun _ w _ => by
  obtain ⟨h1, h2, h3, rfl⟩ := bsl_spec h
  have hu : (underlying T).run P w = .ok .string w := by simp [underlying, hT]
  have e1 : ((hi.toNat : Nat) : Int) = hi := by omega
  simp [smSl, Instr.sliceAt, Instr.slice, Instr.sliceBounds, Instr.sliceBound, asIntOf, hu, h2, h3]
theorem ob_bsl {T : TypeId} {s r : ByteArray} (hT : P.underlying T = some .string) (h : bsl s 0 (s.size : Int) = some r) :
    obOk P w0 L (smSl T (.string s) none none none, .string r) := fun _ w _ => by
  obtain ⟨h1, h2, h3, rfl⟩ := bsl_spec h
  have hu : (underlying T).run P w = .ok .string w := by simp [underlying, hT]
  simp [smSl, Instr.sliceAt, Instr.slice, Instr.sliceBounds, hu]
/-- Two strings, one behind the other. -/
def scat (a b : ByteArray) : Option ByteArray := if a.size + b.size ≤ 9223372036854775807 then some (a ++ b) else none
theorem ob_scat {a b r : ByteArray} (h : scat a b = some r) : obOk P w0 L (smCat a b, .string r) := by
  unfold scat at h
  split at h
  · cases h; exact ob_cat ‹_›
  · cases h
/-- l[lo:hi] of a list. -/
def lsl {α : Type} (l : List α) (lo hi : Int) : Option (List α) := if 0 ≤ lo ∧ lo ≤ hi ∧ hi ≤ (l.length : Int) then some ((l.take hi.toNat).drop lo.toNat) else none
theorem lsl_spec {α : Type} {l r : List α} {lo hi : Int} (h : lsl l lo hi = some r) : 0 ≤ lo ∧ lo ≤ hi ∧ hi ≤ (l.length : Int) ∧ r = (l.take hi.toNat).drop lo.toNat ∧ r.length = hi.toNat - lo.toNat := by
  unfold lsl at h
  split at h
  · cases h
    rename_i h
    refine ⟨h.1, h.2.1, h.2.2, rfl, ?_⟩
    rw [List.length_drop, List.length_take]
    omega
  · cases h
def slp (A : Option Addr) (c : Nat) (lo : Int) (sz : Nat) : Option Addr := if c = lo.toNat then A else A.map (·.add (lo.toNat * sz))
section
variable {α : Type} {E : Enc α} {A : Option Addr} {c : Nat} {l r : List α} {lo hi : Int}
theorem cellsL_drop (l : List α) (k : Nat) (h : k ≤ l.length) (j : Nat) : (cellsL E (l.drop k))[j]? = (cellsL E l)[k * E.sz + j]? := by
  have e : cellsL E l = cellsL E (l.take k) ++ cellsL E (l.drop k) := by rw [← cellsL_append, List.take_append_drop]
  rw [e, List.getElem?_append_right (by rw [cellsL_len, List.length_take]; have : min k l.length = k := by omega
                                        rw [this]; omega), cellsL_len, List.length_take]
  congr 1
  have : min k l.length = k := by omega
  rw [this]; omega
theorem cellsL_take {l : List α} {k j : Nat} {v : Value} (h : (cellsL E (l.take k))[j]? = some v) : (cellsL E l)[j]? = some v := by
  have e : cellsL E l = cellsL E (l.take k) ++ cellsL E (l.drop k) := by rw [← cellsL_append, List.take_append_drop]
  rw [e, List.getElem?_append_left (List.getElem?_eq_some_iff.1 h).1]
  exact h
theorem cellsL_lsl (h : lsl l lo hi = some r) {j : Nat} {v : Value} (hv : (cellsL E r)[j]? = some v) : (cellsL E l)[lo.toNat * E.sz + j]? = some v := by
  obtain ⟨h1, h2, h3, rfl, _⟩ := lsl_spec h
  rw [cellsL_drop _ _ (by rw [List.length_take]; omega)] at hv
  exact cellsL_take hv
theorem RowT.lsl {Ls : List Asn} (hR : RowT w0 Ls E A c l) (h : lsl l lo hi = some r) {sz : Nat} (hs : sz = E.sz) : RowT w0 Ls E (slp A c lo sz) (c - lo.toNat) r := fun F' w hw => by
  subst hs
  obtain ⟨h1, h2⟩ := hR F' w hw
  obtain ⟨g1, g2, g3, g4, g5⟩ := lsl_spec h
  refine ⟨by rw [g5]; omega, fun j v hv => ?_⟩
  obtain ⟨a, rfl, hc⟩ := h2 _ _ (cellsL_lsl h hv)
  unfold slp
  split
  · rename_i e
    have : r.length = 0 := by rw [g5]; omega
    rw [List.length_eq_zero_iff.1 this] at hv
    simp [cellsL] at hv
  · exact ⟨_, rfl, by rw [add_add]; exact hc⟩
theorem run_lsl {T U : TypeId} {sz : Nat} (hT : P.underlying T = some (.slice U)) (hU : (P.info? U).map (·.size) = some sz) (hlc : l.length ≤ c) (h : lsl l lo hi = some r) (w : World) (olo ohi : Option Value)
    (hlo : (∃ k, olo = some (.int k lo)) ∨ olo = none ∧ lo = 0) (hhi : (∃ k, ohi = some (.int k hi)) ∨ ohi = none ∧ hi = (l.length : Int)) :
    (Instr.sliceAt T (.slice A l.length c) olo ohi none).run P w = .ok (.slice (slp A c lo sz) r.length (c - lo.toNat)) w := by
  obtain ⟨g1, g2, g3, g4, g5⟩ := lsl_spec h
  have h2 : (underlying T).run P w = .ok (.slice U) w := by simp [underlying, hT]
  obtain ⟨ti, hti, rfl⟩ := Option.map_eq_some_iff.1 hU
  have h3 : (Go.sizeOf U).run P w = .ok ti.size w := by simp [Go.sizeOf, typeInfo, hti]
  have e1 : ((lo.toNat : Nat) : Int) = lo := by omega
  have e2 : ((hi.toNat : Nat) : Int) = hi := by omega
  have g6 : hi ≤ (c : Int) := by omega
  have g7 : 0 ≤ hi := by omega
  rw [g5]
  rcases hlo with ⟨k, rfl⟩ | ⟨rfl, rfl⟩ <;> rcases hhi with ⟨k', rfl⟩ | ⟨rfl, rfl⟩ <;>
    simp [Instr.sliceAt, Instr.slice, Instr.sliceBounds, Instr.sliceBound, asIntOf, h2, h3, slp, g1, g2, g6, g7, e2]
theorem ob_lsl {Ls : List Asn} {T U : TypeId} {sz : Nat} (olo ohi : Option Value) (hT : P.underlying T = some (.slice U)) (hU : (P.info? U).map (·.size) = some sz) (hR : RowT w0 Ls E A c l) (h : lsl l lo hi = some r)
    (hlo : (∃ k, olo = some (.int k lo)) ∨ olo = none ∧ lo = 0) (hhi : (∃ k, ohi = some (.int k hi)) ∨ ohi = none ∧ hi = (l.length : Int)) :
    obOk P w0 Ls (smSl T (.slice A l.length c) olo ohi none, .slice (slp A c lo sz) r.length (c - lo.toNat)) := fun F' w hw => by
  simp [smSl, run_lsl (A := A) hT hU (hR F' w hw).1 h w olo ohi hlo hhi]
end
/-- The string of bytes. -/
def bS (l : List Int) : ByteArray := l.foldl (fun r n => r.push (UInt8.ofNat n.toNat)) ByteArray.empty
theorem cells_bytes : ∀ l : List Int, cellsL (eI .u8) l = l.map (Value.int .u8)
  | [] => rfl
  | b :: l => by
    have := cells_bytes l
    simp only [cellsL, eI, List.flatMap_cons, List.map_cons, List.singleton_append] at *
    rw [this]
def smCv (s d : TypeId) (x : Value) : Sem Next := do pure (.value (← convert s d x))
theorem ob_bS {Ls : List Asn} {S D U : TypeId} {A : Option Addr} {c : Nat} {l : List Int} (hS : P.underlying S = some (.slice U)) (hU : P.underlying U = some (.int .u8)) (hD : P.underlying D = some .string) (hR : RowT w0 Ls (eI .u8) A c l) :
    obOk P w0 Ls (smCv S D (.slice A l.length c), .string (bS l)) := fun F' w hw => by
  obtain ⟨h1, h2⟩ := hR F' w hw
  have e2 : cellsL (eI .u8) l = l.map (Value.int .u8) := cells_bytes l
  have hrun : (Conv.bytesToString (.slice A l.length c)).run P w = .ok (.string (bS l)) w := by
    rcases A with _ | a
    · cases l with
      | nil => simp [Conv.bytesToString, bS]
      | cons x l => obtain ⟨_, h, _⟩ := h2 0 (.int .u8 x) (by rw [e2]; rfl); cases h
    · refine run_bytesToString w a l.length c l ?_
      have := run_loadCells_list (P := P) w a (l.map (Value.int .u8)) fun j v hv => by
        obtain ⟨_, h, hc⟩ := h2 j v (by rw [e2]; exact hv)
        cases h; exact hc
      rw [List.length_map] at this
      exact this
  simp [smCv, run_convert_bytes_string w S D U A l.length c hS hU hD, hrun]
end

/-! ### Scopes and their labels -/
def Exit.jumps (J : Nat → Act → World → Prop) (Q : Exit → Act → World → Prop) : Exit → Act → World → Prop
  | .goto l, a, w => J l a w
  | e, a, w => Q e a w
instance {J : Nat → Act → World → Prop} {Q : Exit → Act → World → Prop} [h : PF Q] : PF (Exit.jumps J Q) := ⟨fun c a d v w hq => h.pf c a d v w hq⟩
/-- From a label on, with so many jumps at most. -/
def scopeG (P : Program) (c : Code) (Q : Exit → Act → World → Prop) : Nat → Nat → Act → World → Prop
  | 0 => fun _ _ _ => False
  | k + 1 => fun l a w => ∃ rest, findLabel c l = some rest ∧ rest.wp P (Exit.jumps (scopeG P c Q k) Q) a w
def scopeJ (P : Program) (c : Code) (Q : Exit → Act → World → Prop) (l : Nat) (a : Act) (w : World) : Prop := ∃ k, scopeG P c Q k l a w
section
variable {P : Program} {n : NN} {w0 : World} {F : List Asn} {s : SS} {Q : Exit → Act → World → Prop}
theorem rn_scope {c : Code} (h : Rn P n w0 F c s (Exit.jumps (scopeJ P c Q) Q)) : Rn P n w0 F (.scope c) s Q := by
  intro a w hs b k cs
  have key : ∀ m l a w, scopeG P c Q m l a w → ∃ rest, gotoIn l (.inScope c :: k) = some (.code rest :: .inScope c :: k) ∧ ∃ e a' w', Q e a' w' ∧ Arrives P (lone (b.at a (.code rest :: .inScope c :: k)) cs w) b k cs e a' w' := by
    intro m
    induction m with
    | zero => intro l a w h; exact h.elim
    | succ m ih =>
      intro l a w hJ
      obtain ⟨rest, hf, hwp⟩ := hJ
      refine ⟨rest, by simp [gotoIn, hf], ?_⟩
      obtain ⟨e, a₁, w₁, hq, harr⟩ := hwp b (.inScope c :: k) cs
      cases e with
      | normal => exact ⟨.normal, a₁, w₁, hq, Steps.trans harr (.one step_inScope)⟩
      | exit id => exact ⟨.exit id, a₁, w₁, hq, fun k' hk => harr k' (by simp [exitTo, hk])⟩
      | goto l' =>
        obtain ⟨rest', hg, e₂, a₂, w₂, hq₂, harr₂⟩ := ih l' a₁ w₁ hq
        exact ⟨e₂, a₂, w₂, hq₂, .of_steps (harr _ hg) harr₂⟩
      | ret => exact ⟨_, a₁, w₁, hq, harr⟩
      | panic ch => exact ⟨_, a₁, w₁, hq, harr⟩
      | outgrown => exact ⟨_, a₁, w₁, hq, harr⟩
  obtain ⟨e, a₁, w₁, hq, harr⟩ := h a w hs b (.inScope c :: k) cs
  cases e with
  | normal => exact ⟨.normal, a₁, w₁, hq, .head step_scope (Steps.trans harr (.one step_inScope))⟩
  | exit id => exact ⟨.exit id, a₁, w₁, hq, fun k' hk => .head step_scope (harr k' (by simp [exitTo, hk]))⟩
  | goto l' =>
    obtain ⟨m, hm⟩ := hq
    obtain ⟨rest', hg, e₂, a₂, w₂, hq₂, harr₂⟩ := key m l' a₁ w₁ hm
    exact ⟨e₂, a₂, w₂, hq₂, .of_steps (.head step_scope (harr _ hg)) harr₂⟩
  | ret => exact ⟨_, a₁, w₁, hq, .of_steps (.one step_scope) harr⟩
  | panic ch => exact ⟨_, a₁, w₁, hq, .of_steps (.one step_scope) harr⟩
  | outgrown => exact ⟨_, a₁, w₁, hq, .of_steps (.one step_scope) harr⟩

/-- What holds at a jump to a label: so many rounds are left. -/
def lblJ {V : Type} (l : Nat) (J : Nat → V → Prop) (sv : V → SS) (n : NN) (w0 : World) (F : List Asn) (k : Nat) (l' : Nat) (a : Act) (w : World) : Prop := l' = l ∧ ∃ k' v', k' < k ∧ J k' v' ∧ St n w0 F (sv v') a w
theorem jumps_mono {J J' : Nat → Act → World → Prop} (h : ∀ l a w, J l a w → J' l a w) {e : Exit} {a : Act} {w : World} (hq : Exit.jumps J Q e a w) : Exit.jumps J' Q e a w := by
  cases e with
  | goto l => exact h l a w hq
  | _ => exact hq
theorem rn_label {V : Type} {c R : Code} {l : Nat} (hf : findLabel c l = some (.seq .skip R)) (J : Nat → V → Prop) (sv : V → SS) (k0 : Nat) (v0 : V) (h0 : J k0 v0) (hs0 : ∀ a w, St n w0 F s a w → St n w0 F (sv v0) a w)
    (body : ∀ k v, J k v → Rn P n w0 F R (sv v) (Exit.jumps (lblJ l J sv n w0 F k) Q)) : Rn P n w0 F (.seq (.label l) R) s (Exit.jumps (scopeJ P c Q) Q) := by
  have key : ∀ m k v a w, k < m → J k v → St n w0 F (sv v) a w → R.wp P (Exit.jumps (scopeG P c Q m) Q) a w := by
    intro m
    induction m with
    | zero => intro k v a w h; omega
    | succ m ih =>
      intro k v a w hk hJ hs
      refine wp_mono (body k v hJ a w hs) fun e a' w' hq => jumps_mono (fun l' a w hl => ?_) hq
      obtain ⟨rfl, k', v', hk', hJ', hs'⟩ := hl
      exact ⟨_, hf, wp_seq (wp_skip (ih k' v' a w (by omega) hJ' hs'))⟩
  intro a w hs
  refine wp_seq (wp_label ?_)
  exact wp_mono (key (k0 + 1) k0 v0 a w (by omega) h0 (hs0 a w hs)) fun e a' w' hq => jumps_mono (fun l' a w hl => ⟨_, hl⟩) hq
theorem rn_goto {l : Nat} (h : Fin n w0 F s (Q (.goto l))) : Rn P n w0 F (.goto l) s Q := fun a w hs => wp_goto (h a w hs)
theorem fin_scope {J : Nat → Act → World → Prop} (h : Fin n w0 F s (Q .normal)) : Fin n w0 F s (Exit.jumps J Q .normal) := h
theorem fin_scope_exit {J : Nat → Act → World → Prop} {id : Nat} (h : Fin n w0 F s (Q (.exit id))) : Fin n w0 F s (Exit.jumps J Q (.exit id)) := h
theorem fin_scope_ret {J : Nat → Act → World → Prop} (h : Fin n w0 F s (Q .ret)) : Fin n w0 F s (Exit.jumps J Q .ret) := h
theorem fin_then_goto {K : Act → World → Prop} {l : Nat} (h : Fin n w0 F s (Q (.goto l))) : Fin n w0 F s (Exit.then K Q (.goto l)) := h
theorem fin_block_goto {id l : Nat} (h : Fin n w0 F s (Q (.goto l))) : Fin n w0 F s (Exit.inBlock id Q (.goto l)) := h
theorem fin_goto {V : Type} {l : Nat} {J : Nat → V → Prop} {sv : V → SS} {k : Nat} (h : Fin n w0 F s (fun a w => ∃ k' v', k' < k ∧ J k' v' ∧ St n w0 F (sv v') a w)) : Fin n w0 F s (Exit.jumps (lblJ l J sv n w0 F k) Q (.goto l)) := fun a w hs => ⟨rfl, h a w hs⟩
end

/-! ### Lists of assertions, folded -/
def Ent (A B : List Asn) : Prop := ∀ w0 w F, SH w0 w (A ++ F) → SH w0 w (B ++ F)
theorem Ent.refl (A : List Asn) : Ent A A := fun _ _ _ h => h
theorem Ent.app {A A' B B' : List Asn} (h1 : Ent A B) (h2 : Ent A' B') : Ent (A ++ A') (B ++ B') := fun w0 w F h => by
  have h3 : SH w0 w (A' ++ (B ++ F)) := (h1 w0 w (A' ++ F) (by rw [← List.append_assoc]; exact h)).perm (by rw [← List.append_assoc, ← List.append_assoc]; exact List.perm_append_comm.append_right F)
  have h4 := h2 w0 w _ h3
  exact h4.perm (by rw [← List.append_assoc]; exact List.perm_append_comm.append_right F)
theorem SH.ent {A B : List Asn} {w0 w : World} {F : List Asn} (h : SH w0 w (A ++ F)) (e : Ent A B) : SH w0 w (B ++ F) := e w0 w F h
end Fw
namespace Fw
open Go
theorem ro_nil {α : Type} (U : TypeId) (E : Enc α) {P : Program} {n : NN} {w0 : World} {F : List Asn} {s : SS} {ops : Array Oper} {i : Nat} {Q : Exit → Act → World → Prop} (h : Ro P n w0 F ops i ⟨s.bs, s.env, .a (slA U E none 0 ([] : List α)) :: s.heap⟩ Q) : Ro P n w0 F ops i s Q :=
  fun a w hs => h a w ⟨hs.mt, hs.sh.nilSl⟩
end Fw
