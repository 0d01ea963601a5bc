import Derived.Test.YtegfpljajjfpjaaFwM
set_option linter.unusedVariables false
/-! ## 12. What is known of the heap, opened and folded -/
namespace Fw
open Go
section
variable {P : Program} {n : NN} {w0 : World} {F : List Asn} {s : SS} {Q : Exit → Act → World → Prop}
theorem st_ex {V : Type} {sv : V → SS} {a : Act} {w : World} (h1 : ∀ w, SH w0 w (hden s.bs s.heap ++ F) → ∃ v, SH w0 w (hden (sv v).bs (sv v).heap ++ F)) (he : ∀ v, (sv v).env.all (fun p => (s.env.get p.1).isSome) = true)
    (hv : ∀ v, (sv v).env.map (fun p => p.2.den (sv v).bs) = (sv v).env.map (fun p => match s.env.get p.1 with | some x => x.den s.bs | none => undef)) (hs : St n w0 F s a w) : ∃ v, St n w0 F (sv v) a w := by
  obtain ⟨v, hw⟩ := h1 w hs.sh
  exact ⟨v, mt_conv (he v) (hv v) a hs.mt, hw⟩
theorem rn_ex {V : Type} {c : Code} (sv : V → SS) (h1 : ∀ w, SH w0 w (hden s.bs s.heap ++ F) → ∃ v, SH w0 w (hden (sv v).bs (sv v).heap ++ F)) (he : ∀ v, (sv v).env.all (fun p => (s.env.get p.1).isSome) = true)
    (hv : ∀ v, (sv v).env.map (fun p => p.2.den (sv v).bs) = (sv v).env.map (fun p => match s.env.get p.1 with | some x => x.den s.bs | none => undef)) (h : ∀ v, Rn P n w0 F c (sv v) Q) : Rn P n w0 F c s Q := fun a w hs => by
  obtain ⟨v, hs'⟩ := st_ex h1 he hv hs
  exact h v a w hs'
theorem fin_ex {V : Type} {K : Act → World → Prop} (sv : V → SS) (h1 : ∀ w, SH w0 w (hden s.bs s.heap ++ F) → ∃ v, SH w0 w (hden (sv v).bs (sv v).heap ++ F)) (he : ∀ v, (sv v).env.all (fun p => (s.env.get p.1).isSome) = true)
    (hv : ∀ v, (sv v).env.map (fun p => p.2.den (sv v).bs) = (sv v).env.map (fun p => match s.env.get p.1 with | some x => x.den s.bs | none => undef)) (h : ∀ v, Fin n w0 F (sv v) K) : Fin n w0 F s K := fun a w hs => by
  obtain ⟨v, hs'⟩ := st_ex h1 he hv hs
  exact h v a w hs'
theorem rn_fold {c : Code} (H' : List HE) (h1 : ∀ w, SH w0 w (hden s.bs s.heap ++ F) → SH w0 w (hden s.bs H' ++ F)) (h : Rn P n w0 F c ⟨s.bs, s.env, H'⟩ Q) : Rn P n w0 F c s Q := fun a w hs => h a w ⟨hs.mt, h1 w hs.sh⟩
theorem fin_fold {K : Act → World → Prop} (H' : List HE) (h1 : ∀ w, SH w0 w (hden s.bs s.heap ++ F) → SH w0 w (hden s.bs H' ++ F)) (h : Fin n w0 F ⟨s.bs, s.env, H'⟩ K) : Fin n w0 F s K := fun a w hs => h a w ⟨hs.mt, h1 w hs.sh⟩
theorem ro_fold {ops : Array Oper} {i : Nat} (H' : List HE) (h1 : ∀ w, SH w0 w (hden s.bs s.heap ++ F) → SH w0 w (hden s.bs H' ++ F)) (h : Ro P n w0 F ops i ⟨s.bs, s.env, H'⟩ Q) : Ro P n w0 F ops i s Q := fun a w hs => h a w ⟨hs.mt, h1 w hs.sh⟩
theorem rop_fold {ops : Array Oper} {i : Nat} {K : Act → World → Prop} (H' : List HE) (h1 : ∀ w, SH w0 w (hden s.bs s.heap ++ F) → SH w0 w (hden s.bs H' ++ F)) (h : Rop P n w0 F ops Q i ⟨s.bs, s.env, H'⟩ K) : Rop P n w0 F ops Q i s K := fun a w hs => h a w ⟨hs.mt, h1 w hs.sh⟩
end
/-- A pointer to what is owned, or none. -/
def optA {α : Type} (R : Nat → α → Asn) (p : Value) : Option α → Asn
  | none => pureA (p = .pointer none)
  | some x => exA fun b => starsA [pureA (p = .pointer (some ⟨b, 0, none⟩)), R b x]
theorem optA_none {α : Type} {R : Nat → α → Asn} {p : Value} {w0 w : World} {F : List Asn} (h : SH w0 w (optA R p none :: F)) : p = .pointer none ∧ SH w0 w F := SH.pure.1 h
theorem optA_some {α : Type} {R : Nat → α → Asn} {p : Value} {x : α} {w0 w : World} {F : List Asn} (h : SH w0 w (optA R p (some x) :: F)) : ∃ b, p = .pointer (some ⟨b, 0, none⟩) ∧ SH w0 w (R b x :: F) := by
  obtain ⟨b, h⟩ := SH.ex.1 h
  obtain ⟨h1, h2⟩ := SH.pure.1 (SH.stars.1 h)
  exact ⟨b, h1, h2⟩
theorem optA_innone {α : Type} {R : Nat → α → Asn} : Ent [] [optA R (.pointer none) none] := fun _ _ _ h => SH.pure.2 ⟨rfl, h⟩
theorem optA_insome {α : Type} {R : Nat → α → Asn} {b : Nat} {x : α} : Ent [R b x] [optA R (.pointer (some ⟨b, 0, none⟩)) (some x)] := fun _ _ _ h => SH.ex.2 ⟨b, SH.stars.2 (SH.pure.2 ⟨rfl, h⟩)⟩
end Fw
namespace Fw
open Go
theorem rn_exP {V : Type} {P : Program} {n : NN} {w0 : World} {F : List Asn} {s : SS} {Q : Exit → Act → World → Prop} {c : Code} (Pv : V → Prop) (sv : V → SS) (h1 : ∀ w, SH w0 w (hden s.bs s.heap ++ F) → ∃ v, Pv v ∧ SH w0 w (hden (sv v).bs (sv v).heap ++ F)) (he : ∀ v, (sv v).env.all (fun p => (s.env.get p.1).isSome) = true)
    (hv : ∀ v, Pv v → (sv v).env.map (fun p => p.2.den (sv v).bs) = (sv v).env.map (fun p => match s.env.get p.1 with | some x => x.den s.bs | none => undef)) (h : ∀ v, Pv v → Rn P n w0 F c (sv v) Q) : Rn P n w0 F c s Q := fun a w hs => by
  obtain ⟨v, hp, hw⟩ := h1 w hs.sh
  exact h v hp a w ⟨mt_conv (he v) (hv v hp) a hs.mt, hw⟩
end Fw
namespace Fw
open Go
theorem op_store2 {P : Program} {n : NN} {w0 : World} {F : List Asn} {s : SS} {Q : Exit → Act → World → Prop} {ops : Array Oper} {i : Nat} {K : Act → World → Prop} (T : TypeId) (x y : Operand) (k off : Nat) (yv : SV) (H1 H' : List HE)
    (ho : opAt ops s.env i = some (.store T x y, none, some true)) (hx : opdE s.env x = some (.p k off)) (hy : opdE s.env y = some yv) (hH : storeS P T k off yv s.heap = some H1) (h2 : hden s.bs H1 = hden s.bs H')
    (h : Fin n w0 F { s with heap := H' } K) : Rop P n w0 F ops Q i s K :=
  op_store T x y k off yv H1 ho hx hy hH fun a w hs => h a w ⟨hs.mt, by show SH w0 w (hden s.bs H' ++ F); rw [← h2]; exact hs.sh⟩
def sub64E : Array Value → Sem Value := fun args => do
  let (x, y, b) ← Extern.MathBitsCarry.three "Sub64" args
  pure (Extern.MathBitsCarry.pair ((x + Extern.MathBitsCarry.m64 - y - b) % Extern.MathBitsCarry.m64) (if x < y + b then 1 else 0))
def sub64 (x y b : Int) : Option (Int × Int) := if 0 ≤ x ∧ 0 ≤ y ∧ y ≤ 18446744073709551615 ∧ 0 ≤ b ∧ b ≤ 1 then some ((x + 18446744073709551616 - y - b) % 18446744073709551616, if x < y + b then 1 else 0) else none
theorem run_sub64 {P : Program} (x y b : Int) (hx : 0 ≤ x) (hy : 0 ≤ y) (hy2 : y ≤ 18446744073709551615) (hb0 : 0 ≤ b) (hb : b ≤ 1) (w : World) :
    (sub64E #[.int .u64 x, .int .u64 y, .int .u64 b]).run P w = .ok (.tuple #[.int .u64 ((x + 18446744073709551616 - y - b) % 18446744073709551616), .int .u64 (if x < y + b then 1 else 0)]) w := by
  have key : ∀ k : Nat, k ≤ 1 → (sub64E #[.int .u64 x, .int .u64 y, .int .u64 (k : Int)]).run P w =
      .ok (Extern.MathBitsCarry.pair ((x.toNat + Extern.MathBitsCarry.m64 - y.toNat - k) % Extern.MathBitsCarry.m64) (if x.toNat < y.toNat + k then 1 else 0)) w := by
    intro k hk
    have : k = 0 ∨ k = 1 := by omega
    rcases this with rfl | rfl <;> rfl
  obtain ⟨k, rfl⟩ := Int.eq_ofNat_of_zero_le hb0
  rw [key k (by omega)]
  obtain ⟨X, rfl⟩ := Int.eq_ofNat_of_zero_le hx
  obtain ⟨Y, rfl⟩ := Int.eq_ofNat_of_zero_le hy
  simp only [Extern.MathBitsCarry.pair, Extern.MathBitsCarry.m64, Int.toNat_natCast]
  have e1 : ((((X + 2 ^ 64 - Y - k) % 2 ^ 64 : Nat)) : Int) = ((X : Int) + 18446744073709551616 - Y - k) % 18446744073709551616 := by omega
  have e2 : (Int.ofNat (if X < Y + k then 1 else 0)) = (if (X : Int) < Y + k then 1 else 0) := by
    by_cases h : X < Y + k
    · rw [if_pos h, if_pos (by omega)]; rfl
    · rw [if_neg h, if_neg (by omega)]; rfl
  rw [e2]
  show Result.ok (Value.tuple #[.int .u64 (((X + 2 ^ 64 - Y - k) % 2 ^ 64 : Nat) : Int), _]) w = _
  rw [e1]
theorem ob_sub64 {P : Program} {w0 : World} {L : List Asn} {f : FuncId} {fn : Func} {x y c : Int} {r : Int × Int} (hf : P.funcs[f]? = some fn) (hname : (fn.name == "runtime.NumGoroutine") = false) (hb : fn.body.isNone = true) (hn : Extern.findNext fn = none) (he : Extern.find fn = some sub64E)
    (h : sub64 x y c = some r) : obOk P w0 L (smCf f #[.int .u64 x, .int .u64 y, .int .u64 c], .tuple #[.int .u64 r.1, .int .u64 r.2]) := fun _ w _ => by
  unfold sub64 at h
  split at h
  · rename_i h1
    cases h
    rw [smCf, Go.run_callFunc_extern hf hname hb hn he, run_sub64 x y c h1.1 h1.2.1 h1.2.2.1 h1.2.2.2.1 h1.2.2.2.2]
    rfl
  · cases h
end Fw
