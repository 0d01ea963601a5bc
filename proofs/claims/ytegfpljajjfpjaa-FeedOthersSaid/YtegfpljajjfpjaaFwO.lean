import Derived.Test.YtegfpljajjfpjaaFwN
set_option linter.unusedVariables false
/-! ## 13. A part of an owned slice, instead of it -/
namespace Fw
open Go
section
variable {α : Type} {E : Enc α}
theorem SH.sub {w0 w : World} {U : TypeId} {A : Option Addr} {c sz : Nat} {L r : List α} {lo hi : Int} {R : List Asn} (hr : lsl L lo hi = some r) (hs : sz = E.sz) (h : SH w0 w (slA U E A c L :: R)) : SH w0 w (slA U E (slp A c lo sz) (c - lo.toNat) r :: R) := by
  subst hs
  obtain ⟨g1, g2, g3, g4, g5⟩ := lsl_spec hr
  obtain ⟨S, hS, hX, hrest⟩ := h.sat
  refine ⟨h.os, h.tape, h.output, S, ?_, hX, hrest⟩
  rcases hS with ⟨rfl, rfl, rfl, hn⟩ | ⟨g, off, cs, rfl, hg, q3, q4, q5, q6, q7⟩
  · refine .inl ⟨?_, ?_, by omega, hn⟩
    · unfold slp; split <;> rfl
    · rw [g4]; simp
  · by_cases hc : c = lo.toNat
    · refine .inr ⟨g, off, cs, by unfold slp; rw [if_pos hc], hg, by rw [g5]; omega, by omega, by rw [hc]; simp only [Nat.sub_self, Nat.zero_mul]; have := Nat.le_mul_of_pos_right c E.pos; omega, fun j v hv => ?_, q7⟩
      have : r.length = 0 := by rw [g5]; omega
      rw [List.length_eq_zero_iff.1 this] at hv
      simp [cellsL] at hv
    · refine .inr ⟨g, off + lo.toNat * E.sz, cs, by unfold slp; rw [if_neg hc]; simp only [Option.map_some, add_lit], hg, by rw [g5]; omega, by omega, ?_, fun j v hv => ?_, q7⟩
      · have : lo.toNat * E.sz + (c - lo.toNat) * E.sz = c * E.sz := by rw [← Nat.add_mul]; congr 1; omega
        omega
      · rw [Nat.add_assoc]
        exact q6 _ v (cellsL_lsl hr hv)
variable {P : Program} {n : NN} {w0 : World} {F : List Asn} {s : SS} {Q : Exit → Act → World → Prop}
theorem st_sub (U : TypeId) {A : Option Addr} {c sz : Nat} {L r : List α} {lo hi : Int} (j : Nat) (H : List HE) (hr : lsl L lo hi = some r) (hs : sz = E.sz) (hp : picked [j] (hden s.bs s.heap) = slA U E A c L :: hden s.bs H) {a : Act} {w : World} (h : St n w0 F s a w) :
    St n w0 F ⟨s.bs, s.env, .a (slA U E (slp A c lo sz) (c - lo.toNat) r) :: H⟩ a w := by
  refine ⟨h.mt, ?_⟩
  have h3 : SH w0 w (slA U E A c L :: (hden s.bs H ++ F)) := by
    have := h.sh.perm ((picked_perm [j] _).append_right F)
    rw [hp] at this
    exact this
  exact SH.sub hr hs h3
theorem fin_sub (U : TypeId) (E : Enc α) (A : Option Addr) (c sz : Nat) (L : List α) {r : List α} {lo hi : Int} (j : Nat) (H : List HE) {K : Act → World → Prop} (hr : lsl L lo hi = some r) (hs : sz = E.sz) (hp : picked [j] (hden s.bs s.heap) = slA U E A c L :: hden s.bs H)
    (h : Fin n w0 F ⟨s.bs, s.env, .a (slA U E (slp A c lo sz) (c - lo.toNat) r) :: H⟩ K) : Fin n w0 F s K := fun a w hs' => h a w (st_sub U j H hr hs hp hs')
theorem rn_sub (U : TypeId) (E : Enc α) (A : Option Addr) (c sz : Nat) (L : List α) {r : List α} {lo hi : Int} (j : Nat) (H : List HE) {k : Code} (hr : lsl L lo hi = some r) (hs : sz = E.sz) (hp : picked [j] (hden s.bs s.heap) = slA U E A c L :: hden s.bs H)
    (h : Rn P n w0 F k ⟨s.bs, s.env, .a (slA U E (slp A c lo sz) (c - lo.toNat) r) :: H⟩ Q) : Rn P n w0 F k s Q := fun a w hs' => h a w (st_sub U j H hr hs hp hs')
theorem ro_sub (U : TypeId) (E : Enc α) (A : Option Addr) (c sz : Nat) (L : List α) {r : List α} {lo hi : Int} (j : Nat) (H : List HE) {ops : Array Oper} {i : Nat} (hr : lsl L lo hi = some r) (hs : sz = E.sz) (hp : picked [j] (hden s.bs s.heap) = slA U E A c L :: hden s.bs H)
    (h : Ro P n w0 F ops i ⟨s.bs, s.env, .a (slA U E (slp A c lo sz) (c - lo.toNat) r) :: H⟩ Q) : Ro P n w0 F ops i s Q := fun a w hs' => h a w (st_sub U j H hr hs hp hs')
theorem rop_sub (U : TypeId) (E : Enc α) (A : Option Addr) (c sz : Nat) (L : List α) {r : List α} {lo hi : Int} (j : Nat) (H : List HE) {ops : Array Oper} {i : Nat} {K : Act → World → Prop} (hr : lsl L lo hi = some r) (hs : sz = E.sz) (hp : picked [j] (hden s.bs s.heap) = slA U E A c L :: hden s.bs H)
    (h : Rop P n w0 F ops Q i ⟨s.bs, s.env, .a (slA U E (slp A c lo sz) (c - lo.toNat) r) :: H⟩ K) : Rop P n w0 F ops Q i s K := fun a w hs' => h a w (st_sub U j H hr hs hp hs')
end
end Fw
