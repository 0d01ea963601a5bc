import Derived.Test.YtegfpljajjfpjaaFwO
set_option linter.unusedVariables false
/-! ## 14. Slices of elements that hold slices -/
namespace Fw
open Go
structure Nest (α Γ : Type) where
  sz : Nat
  enc : α → Γ → List Value
  len : ∀ x g, (enc x g).length = sz
  one : ∀ x g, ∀ v ∈ enc x g, v.oneCell' = true
  pos : 0 < sz
  kid : α → Γ → List Asn
section
variable {α Γ : Type} {N : Nest α Γ}
def Nest.E (N : Nest α Γ) : Enc (α × Γ) := ⟨N.sz, fun x => N.enc x.1 x.2, fun x => N.len _ _, fun x => N.one _ _, N.pos⟩
/-- What the elements hold. -/
def kids (N : Nest α Γ) (G : List (α × Γ)) : Asn := starsA (G.flatMap fun x => N.kid x.1 x.2)
def slN (U : TypeId) (N : Nest α Γ) (A : Option Addr) (c : Nat) (L : List α) : Asn := exA fun G : List (α × Γ) => starsA [pureA (G.map (·.1) = L), slA U N.E A c G, kids N G]
theorem kids_nil {w0 w : World} {F : List Asn} (h : SH w0 w F) : SH w0 w (kids N [] :: F) := SH.pure.2 ⟨trivial, h⟩
theorem kids_cat {w0 w : World} {F : List Asn} {G : List (α × Γ)} {x : α} {g : Γ} (h : SH w0 w (kids N G :: (N.kid x g ++ F))) : SH w0 w (kids N (G ++ [(x, g)]) :: F) := by
  refine SH.stars.2 ?_
  rw [List.flatMap_append, List.flatMap_cons, List.flatMap_nil, List.append_nil, List.append_assoc]
  exact SH.stars.1 h
theorem kids_row {β : Type} {E : Enc β} {U : TypeId} {A : Option Addr} {c : Nat} {M : List β} {w0 : World} {Ls : List Asn} {G : List (α × Γ)} (i q : Nat) (h : Ls[i]? = some (kids N G)) {x : α} {g : Γ} (hx : (x, g) ∈ G) (hq : (N.kid x g)[q]? = some (slA U E A c M)) : RowT w0 Ls E A c M := by
  intro F' w hs
  have hp : SH w0 w (kids N G :: (Ls.eraseIdx i ++ F')) := hs.perm ((perm_erase Ls i _ h).append_right F')
  have h2 : SH w0 w ((G.flatMap fun x => N.kid x.1 x.2) ++ (Ls.eraseIdx i ++ F')) := SH.stars.1 hp
  have hm : slA U E A c M ∈ G.flatMap fun x => N.kid x.1 x.2 := List.mem_flatMap.2 ⟨(x, g), hx, List.mem_of_getElem? hq⟩
  obtain ⟨j, hj⟩ := List.mem_iff_getElem?.1 hm
  exact row_at j hj _ w h2
theorem slN_nil {w0 w : World} {U : TypeId} {F : List Asn} (h : SH w0 w F) : SH w0 w (slN U N none 0 [] :: F) :=
  SH.ex.2 ⟨[], SH.stars.2 (SH.pure.2 ⟨rfl, SH.nilSl (kids_nil h)⟩)⟩
theorem slN_out {w0 w : World} {U : TypeId} {A : Option Addr} {c : Nat} {L : List α} {F : List Asn} (h : SH w0 w (slN U N A c L :: F)) : ∃ G : List (α × Γ), G.map (·.1) = L ∧ SH w0 w ([slA U N.E A c G, kids N G] ++ F) := by
  obtain ⟨G, h⟩ := SH.ex.1 h
  obtain ⟨h1, h2⟩ := SH.pure.1 (SH.stars.1 h)
  exact ⟨G, h1, h2⟩
theorem slN_in {U : TypeId} {A : Option Addr} {c : Nat} {L : List α} {G : List (α × Γ)} (hG : G.map (·.1) = L) : Ent [slA U N.E A c G, kids N G] [slN U N A c L] := fun _ _ _ h => SH.ex.2 ⟨G, SH.stars.2 (SH.pure.2 ⟨hG, h⟩)⟩
theorem nidx {G : List (α × Γ)} {L : List α} {i : Int} {y : α} (hG : G.map (·.1) = L) (h : idx L i = some y) : ∃ g, idx G i = some (y, g) ∧ (y, g) ∈ G := by
  subst hG
  obtain ⟨h0, h1, h2⟩ := idx_spec h
  rw [List.getElem?_map, Option.map_eq_some_iff] at h2
  obtain ⟨⟨y', g⟩, h3, rfl⟩ := h2
  exact ⟨g, by unfold idx; rw [if_pos h0, h3], List.mem_of_getElem? h3⟩
variable {P : Program} {n : NN} {w0 : World} {F : List Asn} {s : SS} {Q : Exit → Act → World → Prop}
theorem ob_ian {Ls : List Asn} {T U : TypeId} {k : IntKind} {sz : Nat} {A : Option Addr} {c : Nat} {G : List (α × Γ)} {L : List α} {i : Int} {y : α × Γ} (hT : P.underlying T = some (.slice U)) (hU : (P.info? U).map (·.size) = some sz) (hz : N.E.sz = sz) (hG : G.map (·.1) = L) (hR : RowT w0 Ls N.E A c G) (hy : idx G i = some y) :
    obOk P w0 Ls (smIa T (.slice A L.length c) (.int k i), elP A (i.toNat * sz + 0)) := by
  subst hG
  rw [List.length_map]
  exact ob_ia hT hU hz hR hy
/-- One element more. -/
theorem op_appendN {ops : Array Oper} {i : Nat} {K : Act → World → Prop} (t u U : TypeId) (x y : Operand) (d : Tmp) (A : Option Addr) (Y : Value) (c : Nat) (L : List α) (e : α) (g : Γ) {r : List α} {lim : Nat} (ti : TypeInfo) (z : Value) (is : List Nat) (H : List HE)
    (ho : opAt ops s.env i = some (.call { callee := .builtin .append, args := #[x, y], argTypes := #[t, u] }, some d, some true)) (hx : opdE s.env x = some (.v (.slice A L.length c))) (hy : opdE s.env y = some (.v Y)) (hd : Nat.blt d n.n = true)
    (ht : P.underlying t = some (.slice U)) (hi : P.info? U = some ti) (hz : ti.zero = some z) (hs : ti.size = N.E.sz) (hzs : z.cells.size = N.E.sz)
    (hlim : lim * ti.bytes ≤ 140737488355328) (hlm : lim ≤ maxLen) (hr : cat lim L [e] = some r) (hp : picked is (hden s.bs s.heap) = slN U N A c L :: (N.kid e g ++ hden s.bs H)) (hM : ∀ w, SH w0 w (hden s.bs s.heap ++ F) → ApArg P w u Y ti.size 1 (cellsL N.E [(e, g)]))
    (h : ∀ A' c', Fin n w0 F ⟨s.bs, (d, .v (.slice A' r.length c')) :: s.env, .a (slN U N A' c' r) :: H⟩ K) : Rop P n w0 F ops Q i s K := by
  refine rop_of ho fun o a w h1 h2 hst => ?_
  obtain ⟨rfl, hl⟩ := cat_some hr
  have h3 : SH w0 w (slN U N A c L :: (N.kid e g ++ (hden s.bs H ++ F))) := by
    have := hst.sh.perm ((picked_perm is _).append_right F)
    rw [hp, List.cons_append, List.append_assoc] at this
    exact this
  obtain ⟨G, hG, h4⟩ := slN_out h3
  have hGl : G.length = L.length := by rw [← hG, List.length_map]
  obtain ⟨A', c', w', hr, hsh⟩ := append_run (P := P) (ty := o.type) (L := G) (M := [(e, g)]) ht hi hz hs hzs (Nat.le_trans (Nat.mul_le_mul_right _ (by simp only [List.length_cons, List.length_nil, hGl] at *; exact hl)) hlim) (Nat.le_trans (by simp only [List.length_cons, List.length_nil, hGl] at *; exact hl) hlm) h4 (hM w hst.sh)
  have hrun : (execOp a.eval o).run P w = .ok (.value (.slice A' (L ++ [e]).length c')) w' := by
    rw [hGl] at hr
    simp only [List.length_append, hGl] at hr ⊢
    simp only [execOp, h1, resolve, invoke, builtin, Sem.run_bind, Sem.run_pure, Result.andThen_ok, List.map_toArray, List.map_cons, List.map_nil, hst.mt.opd hx, hst.mt.opd hy, SV.den, hr]
    rfl
  have hsh2 : SH w0 w' (slN U N A' c' (L ++ [e]) :: (hden s.bs H ++ F)) := by
    have q1 : SH w0 w' (kids N G :: (N.kid e g ++ (slA U N.E A' c' (G ++ [(e, g)]) :: (hden s.bs H ++ F)))) := hsh.perm (by
      refine (List.Perm.swap _ _ _).trans (List.Perm.cons _ ?_)
      show List.Perm (slA U N.E A' c' (G ++ [(e, g)]) :: (N.kid e g ++ (hden s.bs H ++ F))) _
      exact List.perm_middle.symm)
    have q2 := (kids_cat q1).perm (List.Perm.swap _ _ _)
    exact slN_in (G := G ++ [(e, g)]) (by rw [List.map_append, hG]; rfl) w0 w' (hden s.bs H ++ F) q2
  refine opwp_value hrun (h A' c' _ _ ⟨?_, hsh2⟩)
  rw [h2]
  exact hst.mt.put (dst := some d) (x := .v (.slice A' (L ++ [e]).length c')) (by simp only [putE, hd, cond_true])
theorem st_nilN (U : TypeId) (N : Nest α Γ) {a : Act} {w : World} (h : St n w0 F s a w) : St n w0 F ⟨s.bs, s.env, .a (slN U N none 0 []) :: s.heap⟩ a w := ⟨h.mt, slN_nil h.sh⟩
theorem fin_nilN (U : TypeId) (N : Nest α Γ) {K : Act → World → Prop} (h : Fin n w0 F ⟨s.bs, s.env, .a (slN U N none 0 []) :: s.heap⟩ K) : Fin n w0 F s K := fun a w hs => h a w (st_nilN U N hs)
theorem rn_nilN (U : TypeId) (N : Nest α Γ) {c : Code} (h : Rn P n w0 F c ⟨s.bs, s.env, .a (slN U N none 0 []) :: s.heap⟩ Q) : Rn P n w0 F c s Q := fun a w hs => h a w (st_nilN U N hs)
theorem ro_nilN (U : TypeId) (N : Nest α Γ) {ops : Array Oper} {i : Nat} (h : Ro P n w0 F ops i ⟨s.bs, s.env, .a (slN U N none 0 []) :: s.heap⟩ Q) : Ro P n w0 F ops i s Q := fun a w hs => h a w (st_nilN U N hs)
theorem rop_nilN (U : TypeId) (N : Nest α Γ) {ops : Array Oper} {i : Nat} {K : Act → World → Prop} (h : Rop P n w0 F ops Q i ⟨s.bs, s.env, .a (slN U N none 0 []) :: s.heap⟩ K) : Rop P n w0 F ops Q i s K := fun a w hs => h a w (st_nilN U N hs)
end
end Fw
