import Derived.Test.YtegfpljajjfpjaaFwE
set_option linter.unusedVariables false
/-! ## 5. Words for printed functions -/
namespace Fw
open Go
abbrev I (x : Int) : SV := .v (.int .i64 x)
abbrev U (k : IntKind) (x : Int) : SV := .v (.int k x)
abbrev B (x : Bool) : SV := .v (.bool x)
abbrev S (x : ByteArray) : SV := .v (.string x)
abbrev i64 (x : Int) : Value := .int .i64 x
abbrev w64 (x : Int) : Int := IntKind.wrap .i64 x
def mn (x y : Int) : Int := if y < x then y else x
def mx (x y : Int) : Int := if y > x then y else x
def bAnd (k : IntKind) (x y : Int) : Int := k.wrap (BitVec.ofInt k.bits x &&& BitVec.ofInt k.bits y).toNat
def bOr (k : IntKind) (x y : Int) : Int := k.wrap (BitVec.ofInt k.bits x ||| BitVec.ofInt k.bits y).toNat
def bXor (k : IntKind) (x y : Int) : Int := k.wrap (BitVec.ofInt k.bits x ^^^ BitVec.ofInt k.bits y).toNat
def bAndNot (k : IntKind) (x y : Int) : Int := k.wrap (BitVec.ofInt k.bits x &&& ~~~ BitVec.ofInt k.bits y).toNat
def shL (k : IntKind) (x y : Int) : Int := k.wrap (x * 2 ^ (min y.toNat k.bits))
def shR (k : IntKind) (x y : Int) : Int := x.fdiv (2 ^ (min y.toNat k.bits))
def sEq (a b : ByteArray) : Bool := a.toList == b.toList
/-- An element, if there is one. -/
def idx {α : Type} (l : List α) (i : Int) : Option α := if 0 ≤ i then l[i.toNat]? else none
def bidx (s : ByteArray) (i : Int) : Option Int := if 0 ≤ i then (s[i.toNat]?).map fun b => (b.toNat : Int) else none
def FUEL : Nat := 1099511627776
theorem bind_some {α β : Type} {o : Option α} {f : α → Option β} {r : β} (h : o.bind f = some r) : ∃ x, o = some x ∧ f x = some r := by
  cases o with
  | none => cases h
  | some x => exact ⟨x, rfl, h⟩

theorem bind_elim {α β : Type} {o : Option α} {f : α → Option β} {r : β} {C : Prop} (h : o.bind f = some r) (k : ∀ x, o = some x → f x = some r → C) : C := by
  obtain ⟨x, h1, h2⟩ := bind_some h
  exact k x h1 h2

/-! ### What hints owe -/
def smQuo (k : IntKind) (a b : Int) : Sem Next := do pure (.value (← Op.intDiv .quo k a b))
def smRem (k : IntKind) (a b : Int) : Sem Next := do pure (.value (← Op.intDiv .rem k a b))
def smShl (k : IntKind) (a : Int) (kb : IntKind) (b : Int) : Sem Next := do pure (.value (← Op.shift .shl k a kb b))
def smShr (k : IntKind) (a : Int) (kb : IntKind) (b : Int) : Sem Next := do pure (.value (← Op.shift .shr k a kb b))
def smIx (T : TypeId) (x i : Value) : Sem Next := do pure (.value (← Instr.index T x i))
def smSl (T : TypeId) (x : Value) (lo hi mx : Option Value) : Sem Next := do pure (.value (← Instr.sliceAt T x lo hi mx))
def smIa (T : TypeId) (x i : Value) : Sem Next := do pure (.value (← Instr.indexAt T x i))
def smFa (T : TypeId) (x : Value) (f : Nat) : Sem Next := do pure (.value (← Instr.fieldAt T x f))
def smLd (T : TypeId) (x : Value) : Sem Next := do pure (.value (← Instr.loadAt T x))
def smCat (a b : ByteArray) : Sem Next := do pure (.value (← Op.stringOp .add a b))

section
variable {P : Program} {w0 : World} {L : List Asn}
theorem ob_quo {k : IntKind} {a b : Int} (h : b ≠ 0) : obOk P w0 L (smQuo k a b, .int k (k.wrap (a.tdiv b))) := fun _ w _ => by
  simp [smQuo, Op.intDiv, h]
theorem ob_rem {k : IntKind} {a b : Int} (h : b ≠ 0) : obOk P w0 L (smRem k a b, .int k (a.tmod b)) := fun _ w _ => by
  simp [smRem, Op.intDiv, h]
theorem ob_shl {k kb : IntKind} {a b : Int} (h : ¬ b < 0) : obOk P w0 L (smShl k a kb b, .int k (shL k a b)) := fun _ w _ => by
  simp [smShl, Op.shift, h, shL]
theorem ob_shr {k kb : IntKind} {a b : Int} (h : ¬ b < 0) : obOk P w0 L (smShr k a kb b, .int k (shR k a b)) := fun _ w _ => by
  simp [smShr, Op.shift, h, shR]
theorem ob_cat {a b : ByteArray} (h : a.size + b.size ≤ 9223372036854775807) : obOk P w0 L (smCat a b, .string (a ++ b)) := fun _ w _ => by
  have h' : ¬ ((a.size + b.size : Nat) : Int) > IntKind.i64.max := by
    have : IntKind.i64.max = 9223372036854775807 := by decide
    omega
  simp only [smCat, Op.stringOp, if_neg h', Sem.run_bind, Sem.run_pure, Result.andThen_ok]
theorem ob_bidx {T : TypeId} {s : ByteArray} {k : IntKind} {i v : Int} (hT : P.underlying T = some .string) (h : bidx s i = some v) : obOk P w0 L (smIx T (.string s) (.int k i), .int .u8 v) := fun _ w _ => by
  unfold bidx at h
  split at h
  · rename_i h0
    simp only [Option.map_eq_some_iff] at h
    obtain ⟨b, hb, rfl⟩ := h
    have h2 : (underlying T).run P w = .ok .string w := by simp [underlying, hT]
    simp [smIx, Instr.index, asIntOf, h2, h0, hb]
  · cases h
/-- s[lo:hi]. -/
def bsl (s : ByteArray) (lo hi : Int) : Option ByteArray := if 0 ≤ hi ∧ hi ≤ (s.size : Int) then (if 0 ≤ lo ∧ lo ≤ hi then some (s.extract lo.toNat hi.toNat) else none) else none
theorem bsl_run {T : TypeId} {s r : ByteArray} {k k' : IntKind} {lo hi : Int} (hT : P.underlying T = some .string) (h : bsl s lo hi = some r) (w : World) :
    (Instr.sliceAt T (.string s) (some (.int k lo)) (some (.int k' hi)) none).run P w = .ok (.string r) w := by
  unfold bsl at h
  split at h
  · rename_i h1
    split at h
    · rename_i h2
      simp only [Option.some.injEq] at h
      have hu : (underlying T).run P w = .ok .string w := by simp [underlying, hT]
      have e1 : ((hi.toNat : Nat) : Int) = hi := by omega
      simp [Instr.sliceAt, Instr.slice, Instr.sliceBounds, Instr.sliceBound, asIntOf, hu, h1.1, h1.2, h2.1, h2.2, e1, h]
    · cases h
  · cases h
end
end Fw
