import Derived.Test.YtegfpljajjfpjaaFwH
set_option linter.unusedVariables false
/-! ## 7. Regions that ask the tape -/
namespace Fw
open Go
def Hold (w0 : World) (Lc : List Asn) (w : World) : Prop := ∃ F', SH w0 w (Lc ++ F')
section
variable {P : Program} {n : NN} {w0 : World} {F : List Asn} {s : SS} {Q : Exit → Act → World → Prop}

def Rh (P : Program) (n : NN) (w0 : World) (F : List Asn) (ops : Array Oper) (Lc : List Asn) (fuel : Nat) (listed : Array Bool) (s : SS) (Q : Exit → Act → World → Prop) : Prop :=
  ∀ a w, St n w0 F s a w → wpAnyH P .any ops Q (Hold w0 Lc) fuel listed a w

theorem rn_held {id : Nat} {ops : Array Oper} (Lc : List Asn) (hm : P.follows .mixedOrders = true) (h : Rh P n w0 F ops Lc ops.size (Array.replicate ops.size false) s Q) : Rn P n w0 F (.region id ops true) s Q :=
  fun a w hs => wp_region_held hm (h a _ ⟨hs.mt, hs.sh.drewBy _⟩)

/-- Operations that leave the world alone, in a given order, each as soon as it may come. -/
def qrunI (P : Program) (n : NN) (ops : Array Oper) (bs : List Nat) (H : List HE) (hs : List (Nat × SV)) : List Nat → Array Bool → SEnv → Option (SEnv × Array Bool × List (Sem Next × Value))
  | [], listed, env => some (env, listed, [])
  | i :: l, listed, env =>
    match ops[i]? with
    | none => none
    | some o =>
      bif Region.free .any ops listed i && (Region.ready .any ops listed).contains i then
        match wantedE ops env o with
        | none => none
        | some false => match putE n env o.dst (.v undef) with
          | some env' => qrunI P n ops bs H hs l (listed.setIfInBounds i true) env'
          | none => none
        | some true =>
          bif knownB env o then
            match qop P bs H env (SEnv.get hs i) o with
            | none => none
            | some x => match putE n env o.dst x with
              | none => none
              | some env' => match qrunI P n ops bs H hs l (listed.setIfInBounds i true) env' with
                | none => none
                | some (env2, listed2, obs) => some (env2, listed2, match SEnv.get hs i with
                  | some y => (execOp (evE bs env) o, y.den bs) :: obs
                  | none => obs)
          else none
      else none

theorem qrunI_run {ops : Array Oper} {bs : List Nat} {H : List HE} {hs : List (Nat × SV)} [hQ : PF Q] (hns : Region.noSelect ops = true) {fuel : Nat} : ∀ (l : List Nat) (listed listed' : Array Bool) (env env' : SEnv) (obs : List (Sem Next × Value)) (a : Act) (w : World),
    qrunI P n ops bs H hs l listed env = some (env', listed', obs) → AllOk (obOk P w0 (hden bs H ++ F)) obs → Mt n bs env a → Hold w0 (hden bs H ++ F) w →
    (∀ a', Mt n bs env' a' → wpAnyH P .any ops Q (Hold w0 (hden bs H ++ F)) fuel listed' a' w) → wpAnyH P .any ops Q (Hold w0 (hden bs H ++ F)) (fuel + l.length) listed a w
  | [], listed, listed', env, env', obs, a, w, h, _, hm, _, hk => by
    simp only [qrunI, Option.some.injEq, Prod.mk.injEq] at h
    obtain ⟨rfl, rfl, rfl⟩ := h
    exact hk a hm
  | i :: l, listed, listed', env, env', obs, a, w, h, hobs, hm, hw, hk => by
    unfold qrunI at h
    cases ho : ops[i]? with
    | none => simp [ho] at h
    | some o =>
      simp only [ho] at h
      cases hfr : (Region.free .any ops listed i && (Region.ready .any ops listed).contains i) with
      | false => simp only [hfr, cond_false] at h; cases h
      | true =>
        simp only [hfr, cond_true] at h
        simp only [Bool.and_eq_true] at hfr
        rw [List.length_cons, ← Nat.add_assoc]
        cases hwd : wantedE ops env o with
        | none => simp [hwd] at h
        | some b =>
          cases b with
          | false =>
            simp only [hwd] at h
            cases hp : putE n env o.dst (.v undef) with
            | none => simp [hp] at h
            | some env1 =>
              simp only [hp] at h
              refine wpAnyH_take (v := undef) ho hns hfr.1 hfr.2 (fun c a w hq => hQ.pf c a o.dst undef w hq) (.inr ⟨wantedE_run hwd hm, rfl⟩) hw ?_
              exact qrunI_run hns l _ listed' env1 env' obs _ w h hobs (hm.put hp) hw hk
          | true =>
            simp only [hwd] at h
            cases hkn : knownB env o with
            | false => simp [hkn] at h
            | true =>
              simp only [hkn, cond_true] at h
              cases hx : qop P bs H env (SEnv.get hs i) o with
              | none => simp [hx] at h
              | some x =>
                simp only [hx] at h
                cases hp : putE n env o.dst x with
                | none => simp [hp] at h
                | some env1 =>
                  simp only [hp] at h
                  cases hr : qrunI P n ops bs H hs l (listed.setIfInBounds i true) env1 with
                  | none => simp [hr] at h
                  | some r =>
                    obtain ⟨env2, listed2, obs2⟩ := r
                    simp only [hr, Option.some.injEq, Prod.mk.injEq] at h
                    obtain ⟨rfl, rfl, hob⟩ := h
                    have hob' : (∀ y, SEnv.get hs i = some y → obOk P w0 (hden bs H ++ F) (execOp (evE bs env) o, y.den bs)) ∧ AllOk (obOk P w0 (hden bs H ++ F)) obs2 := by
                      subst hob
                      cases hh : SEnv.get hs i with
                      | none => simp only [hh] at hobs; exact ⟨fun y hy => (by cases hy), hobs⟩
                      | some z =>
                        simp only [hh] at hobs
                        exact ⟨fun y hy => by cases hy; exact hobs.1, hobs.2⟩
                    refine wpAnyH_take (v := x.den bs) ho hns hfr.1 hfr.2 (fun c a w hq => hQ.pf c a o.dst _ w hq) (.inl ⟨wantedE_run hwd hm, fun w' hw' => ?_⟩) hw ?_
                    · obtain ⟨F', hw'⟩ := hw'
                      exact qop_run hkn (Region.noSelect_spec hns i o · · ho) hx hob'.1 hm hw'
                    · exact qrunI_run hns l _ listed2 env1 env2 obs2 _ w hr hob'.2 (hm.put hp) hw hk

def keepI (l : List Nat) : Option (SEnv × Array Bool × List (Sem Next × Value)) → Option (SEnv × List Bool × List (Sem Next × Value))
  | some (e, b, o) => some (e.keep l, b.toList, o)
  | none => none
theorem keepI_spec {l : List Nat} {r : Option (SEnv × Array Bool × List (Sem Next × Value))} {e : SEnv} {b : List Bool} {o : List (Sem Next × Value)} (h : keepI l r = some (e, b, o)) : ∃ e', r = some (e', b.toArray, o) ∧ e = e'.keep l := by
  cases r with
  | none => cases h
  | some x =>
    obtain ⟨e', b', o'⟩ := x
    simp only [keepI, Option.some.injEq, Prod.mk.injEq] at h
    obtain ⟨rfl, rfl, rfl⟩ := h
    exact ⟨e', by simp, rfl⟩

theorem hold_of {s' : SS} {Hc : List HE} {w : World} (is : List Nat) (R : List Asn) (hh : picked is (hden s'.bs s'.heap) = hden s'.bs Hc ++ R) (h : SH w0 w (hden s'.bs s'.heap ++ F)) : Hold w0 (hden s'.bs Hc ++ F) w := by
  have h1 : SH w0 w (picked is (hden s'.bs s'.heap) ++ F) := h.perm ((picked_perm is _).append_right F)
  rw [hh] at h1
  refine ⟨R, h1.perm ?_⟩
  rw [List.append_assoc, List.append_assoc]
  exact List.Perm.append_left _ List.perm_append_comm

theorem rh_q {ops : Array Oper} [PF Q] {Lc : List Asn} {fuel : Nat} {listed : Array Bool} (Hc : List HE) (fuel' : Nat) (js : List Nat) (hs : List (Nat × SV)) (l : List Nat) (env' : SEnv) (listed' : List Bool) (obs : List (Sem Next × Value))
    (hf : fuel = fuel' + js.length) (hns : Region.noSelect ops = true) (hLc : Lc = hden s.bs Hc ++ F) (is : List Nat) (R : List Asn) (hh : picked is (hden s.bs s.heap) = hden s.bs Hc ++ R)
    (h : keepI l (qrunI P n ops s.bs Hc hs js listed s.env) = some (env', listed', obs)) (hobs : AllOk (obOk P w0 (hden s.bs Hc ++ F)) obs)
    (hk : Rh P n w0 F ops Lc fuel' listed'.toArray { s with env := env' } Q) : Rh P n w0 F ops Lc fuel listed s Q := by
  intro a w hst
  subst hf
  subst hLc
  obtain ⟨e1, h1, rfl⟩ := keepI_spec h
  exact qrunI_run hns js listed listed'.toArray s.env e1 obs a w h1 hobs hst.mt (hold_of is R hh hst.sh) fun a' hm' => hk a' w ⟨hm'.keep l, hst.sh⟩

/-- What is owed behind operation i. -/
def HK (P : Program) (w0 : World) (ops : Array Oper) (Q : Exit → Act → World → Prop) (Lc : List Asn) (fuel : Nat) (listed : Array Bool) (a : Act) (w : World) : Prop := Hold w0 Lc w ∧ wpAnyH P .any ops Q (Hold w0 Lc) fuel listed a w

theorem rh_1 {ops : Array Oper} {Lc : List Asn} {fuel : Nat} {listed : Array Bool} (i : Nat) (hr : Region.ready .any ops listed = [i])
    (h : Rop P n w0 F ops Q i s (HK P w0 ops Q Lc fuel (listed.setIfInBounds i true))) : Rh P n w0 F ops Lc (fuel + 1) listed s Q := fun a w hs =>
  wpAnyH_all hr (by simp) fun j hj => by
    have : j = i := by simpa using hj
    subst this; exact h a w hs
theorem rh_2 {ops : Array Oper} {Lc : List Asn} {fuel : Nat} {listed : Array Bool} (i j : Nat) (hr : Region.ready .any ops listed = [i, j])
    (h : Rop P n w0 F ops Q i s (HK P w0 ops Q Lc fuel (listed.setIfInBounds i true))) (h' : Rop P n w0 F ops Q j s (HK P w0 ops Q Lc fuel (listed.setIfInBounds j true))) : Rh P n w0 F ops Lc (fuel + 1) listed s Q := fun a w hs =>
  wpAnyH_all hr (by simp) fun k hk => by
    rcases (by simpa using hk : k = i ∨ k = j) with rfl | rfl
    · exact h a w hs
    · exact h' a w hs
theorem rh_3 {ops : Array Oper} {Lc : List Asn} {fuel : Nat} {listed : Array Bool} (i j m : Nat) (hr : Region.ready .any ops listed = [i, j, m])
    (h : Rop P n w0 F ops Q i s (HK P w0 ops Q Lc fuel (listed.setIfInBounds i true))) (h' : Rop P n w0 F ops Q j s (HK P w0 ops Q Lc fuel (listed.setIfInBounds j true)))
    (h'' : Rop P n w0 F ops Q m s (HK P w0 ops Q Lc fuel (listed.setIfInBounds m true))) : Rh P n w0 F ops Lc (fuel + 1) listed s Q := fun a w hs =>
  wpAnyH_all hr (by simp) fun k hk => by
    rcases (by simpa using hk : k = i ∨ k = j ∨ k = m) with rfl | rfl | rfl
    · exact h a w hs
    · exact h' a w hs
    · exact h'' a w hs
theorem fin_held {ops : Array Oper} {Lc : List Asn} {fuel : Nat} {listed : Array Bool} (Hc : List HE) (listed' : List Bool) (hl : listed.toList = listed') (hLc : Lc = hden s.bs Hc ++ F) (is : List Nat) (R : List Asn) (hh : picked is (hden s.bs s.heap) = hden s.bs Hc ++ R)
    (h : Rh P n w0 F ops Lc fuel listed'.toArray s Q) : Fin n w0 F s (HK P w0 ops Q Lc fuel listed) := fun a w hs =>
  ⟨by rw [hLc]; exact hold_of is R hh hs.sh, by have := h a w hs; rw [← hl] at this; simpa using this⟩
theorem rh_end {ops : Array Oper} {Lc : List Asn} {fuel : Nat} {listed : Array Bool} (hr : Region.ready .any ops listed = []) (h : Fin n w0 F s (Q .normal)) : Rh P n w0 F ops Lc fuel listed s Q := fun a w hs => wpAnyH_done hr (h a w hs) fuel

theorem rh_split {ops : Array Oper} {Lc : List Asn} {fuel : Nat} {listed : Array Bool} (t : Nat) (b : Bool) (hb : s.env.get t = some (.v (.bool b)))
    (ht : b = true → Rh P n w0 F ops Lc fuel listed { s with env := (t, .v (.bool true)) :: s.env } Q) (hf : b = false → Rh P n w0 F ops Lc fuel listed { s with env := (t, .v (.bool false)) :: s.env } Q) : Rh P n w0 F ops Lc fuel listed s Q := by
  intro a w hs
  have key : ∀ c, b = c → St n w0 F { s with env := (t, .v (.bool c)) :: s.env } a w := by
    rintro c rfl
    refine ⟨⟨hs.mt.size, hs.mt.defers, fun u x => ?_⟩, hs.sh⟩
    simp only [SEnv.get]
    cases hu : Nat.beq t u with
    | true =>
      have : t = u := Nat.eq_of_beq_eq_true hu
      subst this
      simp only [cond_true, Option.some.injEq]
      rintro rfl
      exact hs.mt.env t _ hb
    | false => simp only [cond_false]; exact hs.mt.env u x
  cases b with
  | true => exact ht rfl a w (key true rfl)
  | false => exact hf rfl a w (key false rfl)
theorem SH.eq {L L' : List Asn} {w : World} (h : SH w0 w L) (e : L = L') : SH w0 w L' := e ▸ h
theorem SH.sel {L L' : List Asn} {w : World} (is : List Nat) (h : SH w0 w L) (e : picked is L = L') : SH w0 w L' := (h.pick is).eq e
/-- Some parts, in an order; what is left falls. -/
theorem SH.take {L L' : List Asn} {w : World} (is : List Nat) (R : List Asn) (h : SH w0 w (L ++ F)) (e : picked is L = L' ++ R) : SH w0 w (L' ++ F) := by
  have h1 : SH w0 w (picked is L ++ F) := h.perm ((picked_perm is _).append_right F)
  rw [e] at h1
  have h2 : SH w0 w (R ++ (L' ++ F)) := h1.perm (by rw [← List.append_assoc]; exact List.perm_append_comm.append_right F)
  exact h2.drop
end
end Fw
