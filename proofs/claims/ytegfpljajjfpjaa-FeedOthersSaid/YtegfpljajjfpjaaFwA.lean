import Derived.Tactics
import Derived.Deep.Quiet
import Derived.StillTail
import Derived.KernelRfl
import Derived.Laws.AppendOwn
set_option linter.unusedVariables false
namespace Fw
open Go

/-! ## 1. Heap assertions -/

/-- An assertion on a part of the heap, with the set of blocks that it speaks of. -/
structure Asn where
  sat : Array Obj → (Nat → Prop) → Prop
  loc : ∀ {h h' : Array Obj} {S : Nat → Prop}, sat h S → (∀ b, S b → h'[b]? = h[b]?) → sat h' S
  lt : ∀ {h : Array Obj} {S : Nat → Prop}, sat h S → ∀ b, S b → b < h.size

/-- All assertions of a list hold of parts that don't meet, nor meet X. -/
def sats (h : Array Obj) : (Nat → Prop) → List Asn → Prop
  | _, [] => True
  | X, A :: L => ∃ S, A.sat h S ∧ (∀ b, S b → ¬ X b) ∧ sats h (fun b => X b ∨ S b) L

theorem sats_mono {h : Array Obj} : ∀ {L : List Asn} {X X' : Nat → Prop}, (∀ b, X' b → X b) → sats h X L → sats h X' L
  | [], _, _, _, _ => trivial
  | _ :: _, _, _, hx, ⟨S, h1, h2, h3⟩ => ⟨S, h1, fun b hb h' => h2 b hb (hx b h'), sats_mono (fun b hb => hb.imp (hx b) id) h3⟩

theorem sats_tail {h : Array Obj} {A : Asn} {L : List Asn} {X : Nat → Prop} (hh : sats h X (A :: L)) : sats h X L := by
  obtain ⟨S, _, _, h3⟩ := hh
  exact sats_mono (fun b hb => .inl hb) h3

theorem sats_swap {h : Array Obj} {A B : Asn} {L : List Asn} {X : Nat → Prop} (hh : sats h X (A :: B :: L)) : sats h X (B :: A :: L) := by
  obtain ⟨S, h1, h2, T, h3, h4, h5⟩ := hh
  refine ⟨T, h3, fun b hb hx => h4 b hb (.inl hx), S, h1, fun b hb hx => ?_, sats_mono (fun b hb => ?_) h5⟩
  · rcases hx with hx | hx
    · exact h2 b hb hx
    · exact h4 b hx (.inr hb)
  · rcases hb with (hb | hb) | hb
    · exact .inl (.inl hb)
    · exact .inr hb
    · exact .inl (.inr hb)

theorem sats_perm {h : Array Obj} {L L' : List Asn} (hp : L.Perm L') : ∀ {X : Nat → Prop}, sats h X L → sats h X L' := by
  induction hp with
  | nil => intro _ h; exact h
  | cons A _ ih => intro X ⟨S, h1, h2, h3⟩; exact ⟨S, h1, h2, ih h3⟩
  | swap A B l => intro X h; exact sats_swap h
  | trans _ _ ih1 ih2 => intro X h; exact ih2 (ih1 h)

theorem sats_drop {h : Array Obj} : ∀ {L M : List Asn} {X : Nat → Prop}, sats h X (L ++ M) → sats h X M
  | [], _, _, h => h
  | _ :: _, _, _, h => sats_drop (sats_tail h)

/-- What changed lies in X. -/
theorem sats_change {h h' : Array Obj} : ∀ {L : List Asn} {X : Nat → Prop}, sats h X L → (∀ b, ¬ X b → b < h.size → h'[b]? = h[b]?) → sats h' X L
  | [], _, _, _ => trivial
  | A :: _, _, ⟨S, h1, h2, h3⟩, hc => ⟨S, A.loc h1 (fun b hb => hc b (h2 b hb) (A.lt h1 b hb)), h2, sats_change h3 fun b hb => hc b (fun hx => hb (.inl hx))⟩

/-- X may grow by what is new. -/
theorem sats_fresh {h : Array Obj} : ∀ {L : List Asn} {X X' : Nat → Prop}, sats h X L → (∀ b, X' b → X b ∨ h.size ≤ b) → sats h X' L
  | [], _, _, _, _ => trivial
  | A :: _, X, X', ⟨S, h1, h2, h3⟩, hx => by
    refine ⟨S, h1, fun b hb hb' => ?_, sats_fresh h3 fun b hb => ?_⟩
    · rcases hx b hb' with h | h
      · exact h2 b hb h
      · have := A.lt h1 b hb; omega
    · rcases hb with hb | hb
      · rcases hx b hb with h | h
        · exact .inl (.inl h)
        · exact .inr h
      · exact .inl (.inr hb)

def none_ : Nat → Prop := fun _ => False

/-- The world: the streams are as those of w0; the heap holds the list. -/
structure SH (w0 w : World) (L : List Asn) : Prop where
  os : w.os = w0.os
  tape : w.tape = w0.tape
  output : w.output = w0.output
  sat : sats w.heap none_ L

theorem SH.perm {w0 w : World} {L L' : List Asn} (h : SH w0 w L) (hp : L.Perm L') : SH w0 w L' := ⟨h.os, h.tape, h.output, sats_perm hp h.sat⟩
theorem SH.tail {w0 w : World} {A : Asn} {L : List Asn} (h : SH w0 w (A :: L)) : SH w0 w L := ⟨h.os, h.tape, h.output, sats_tail h.sat⟩
theorem SH.drop {w0 w : World} {L M : List Asn} (h : SH w0 w (L ++ M)) : SH w0 w M := ⟨h.os, h.tape, h.output, sats_drop h.sat⟩
theorem SH.drewBy {w0 w : World} {L : List Asn} (h : SH w0 w L) (n : Nat) : SH w0 { w with drawn := n } L := ⟨h.os, h.tape, h.output, h.sat⟩

/-! ### Assertions -/
/-- Block b holds o. -/
def objA (b : Nat) (o : Obj) : Asn where
  sat h S := h[b]? = some o ∧ ∀ k, S k ↔ k = b
  loc := fun ⟨h1, h2⟩ hs => ⟨(hs b ((h2 b).2 rfl)).trans h1, h2⟩
  lt := fun ⟨h1, h2⟩ k hk => by rw [(h2 k).1 hk]; exact (Array.getElem?_eq_some_iff.1 h1).1

def cellsA (b : Nat) (cs : List Value) (T : TypeId) : Asn := objA b (.cells cs.toArray T (0, 0))

def pureA (p : Prop) : Asn where
  sat _ S := p ∧ ∀ k, ¬ S k
  loc := fun h _ => h
  lt := fun h k hk => absurd hk (h.2 k)

def exA {α : Type} (f : α → Asn) : Asn where
  sat h S := ∃ x, (f x).sat h S
  loc := fun ⟨x, hx⟩ hs => ⟨x, (f x).loc hx hs⟩
  lt := fun ⟨x, hx⟩ => (f x).lt hx

def starA (A B : Asn) : Asn where
  sat h S := ∃ S1 S2, A.sat h S1 ∧ B.sat h S2 ∧ (∀ b, S1 b → ¬ S2 b) ∧ ∀ b, S b ↔ S1 b ∨ S2 b
  loc := fun ⟨S1, S2, h1, h2, h3, h4⟩ hs => ⟨S1, S2, A.loc h1 fun b hb => hs b ((h4 b).2 (.inl hb)), B.loc h2 fun b hb => hs b ((h4 b).2 (.inr hb)), h3, h4⟩
  lt := fun ⟨S1, S2, h1, h2, _, h4⟩ b hb => by
    rcases (h4 b).1 hb with hb | hb
    · exact A.lt h1 b hb
    · exact B.lt h2 b hb

def starsA : List Asn → Asn
  | [] => pureA True
  | A :: L => starA A (starsA L)

theorem sats_ex {h : Array Obj} {X : Nat → Prop} {α : Type} {f : α → Asn} {L : List Asn} : sats h X (exA f :: L) ↔ ∃ x, sats h X (f x :: L) :=
  ⟨fun ⟨S, ⟨x, hx⟩, h2, h3⟩ => ⟨x, S, hx, h2, h3⟩, fun ⟨x, S, hx, h2, h3⟩ => ⟨S, ⟨x, hx⟩, h2, h3⟩⟩

theorem sats_pure {h : Array Obj} {X : Nat → Prop} {p : Prop} {L : List Asn} : sats h X (pureA p :: L) ↔ p ∧ sats h X L :=
  ⟨fun hh => ⟨let ⟨_, h1, _, _⟩ := hh; h1.1, sats_tail hh⟩, fun ⟨hp, hh⟩ => ⟨fun _ => False, ⟨hp, fun _ h => h⟩, fun _ h => h.elim, sats_mono (fun _ hb => hb.elim id False.elim) hh⟩⟩

theorem sats_star {h : Array Obj} {X : Nat → Prop} {A B : Asn} {L : List Asn} : sats h X (starA A B :: L) ↔ sats h X (A :: B :: L) := by
  constructor
  · rintro ⟨S, ⟨S1, S2, h1, h2, h3, h4⟩, h5, h6⟩
    refine ⟨S1, h1, fun b hb => h5 b ((h4 b).2 (.inl hb)), S2, h2, fun b hb hx => ?_, sats_mono (fun b hb => ?_) h6⟩
    · rcases hx with hx | hx
      · exact h5 b ((h4 b).2 (.inr hb)) hx
      · exact h3 b hx hb
    · rcases hb with (hb | hb) | hb
      · exact .inl hb
      · exact .inr ((h4 b).2 (.inl hb))
      · exact .inr ((h4 b).2 (.inr hb))
  · rintro ⟨S1, h1, h2, S2, h3, h4, h5⟩
    refine ⟨fun b => S1 b ∨ S2 b, ⟨S1, S2, h1, h3, fun b h1 h2 => h4 b h2 (.inr h1), fun _ => Iff.rfl⟩, fun b hb hx => ?_, sats_mono (fun b hb => ?_) h5⟩
    · rcases hb with hb | hb
      · exact h2 b hb hx
      · exact h4 b hb (.inl hx)
    · rcases hb with hb | hb | hb
      · exact .inl (.inl hb)
      · exact .inl (.inr hb)
      · exact .inr hb

theorem sats_stars {h : Array Obj} {X : Nat → Prop} : ∀ {M L : List Asn}, sats h X (starsA M :: L) ↔ sats h X (M ++ L)
  | [], L => by simp only [starsA, sats_pure, true_and, List.nil_append]
  | A :: M, L => by
    simp only [starsA, sats_star, List.cons_append]
    constructor
    · rintro ⟨S, h1, h2, h3⟩; exact ⟨S, h1, h2, sats_stars.1 h3⟩
    · rintro ⟨S, h1, h2, h3⟩; exact ⟨S, h1, h2, sats_stars.2 h3⟩

theorem SH.ex {w0 w : World} {α : Type} {f : α → Asn} {L : List Asn} : SH w0 w (exA f :: L) ↔ ∃ x, SH w0 w (f x :: L) :=
  ⟨fun h => let ⟨x, hx⟩ := sats_ex.1 h.sat; ⟨x, h.os, h.tape, h.output, hx⟩, fun ⟨x, h⟩ => ⟨h.os, h.tape, h.output, sats_ex.2 ⟨x, h.sat⟩⟩⟩
theorem SH.pure {w0 w : World} {p : Prop} {L : List Asn} : SH w0 w (pureA p :: L) ↔ p ∧ SH w0 w L :=
  ⟨fun h => ⟨(sats_pure.1 h.sat).1, h.os, h.tape, h.output, (sats_pure.1 h.sat).2⟩, fun ⟨hp, h⟩ => ⟨h.os, h.tape, h.output, sats_pure.2 ⟨hp, h.sat⟩⟩⟩
theorem SH.stars {w0 w : World} {M L : List Asn} : SH w0 w (starsA M :: L) ↔ SH w0 w (M ++ L) :=
  ⟨fun h => ⟨h.os, h.tape, h.output, sats_stars.1 h.sat⟩, fun h => ⟨h.os, h.tape, h.output, sats_stars.2 h.sat⟩⟩

/-- The block of an assertion that stands first. -/
theorem SH.obj {w0 w : World} {b : Nat} {o : Obj} {L : List Asn} (h : SH w0 w (objA b o :: L)) : w.heap[b]? = some o := by
  obtain ⟨S, h1, _⟩ := h.sat
  exact h1.1

/-- A block is written. -/
theorem SH.set {w0 w w' : World} {b : Nat} {o o' : Obj} {L : List Asn} (h : SH w0 w (objA b o :: L)) (hos : w'.os = w.os) (ht : w'.tape = w.tape) (hout : w'.output = w.output)
    (hb : w'.heap[b]? = some o') (hk : ∀ k, k ≠ b → w'.heap[k]? = w.heap[k]?) : SH w0 w' (objA b o' :: L) := by
  obtain ⟨S, h1, h2, h3⟩ := h.sat
  refine ⟨hos.trans h.os, ht.trans h.tape, hout.trans h.output, S, ⟨hb, h1.2⟩, h2, sats_change h3 fun k hk' _ => hk k fun e => hk' (.inr ((h1.2 k).2 e))⟩

/-- A block is made. -/
theorem SH.new {w0 w w' : World} {o : Obj} {L : List Asn} (h : SH w0 w L) (hos : w'.os = w.os) (ht : w'.tape = w.tape) (hout : w'.output = w.output)
    (hh : w'.heap = w.heap.push o) : SH w0 w' (objA w.heap.size o :: L) := by
  refine ⟨hos.trans h.os, ht.trans h.tape, hout.trans h.output, fun k => k = w.heap.size, ⟨by rw [hh]; simp, fun _ => Iff.rfl⟩, fun _ _ h => h, ?_⟩
  have h1 : sats w.heap (fun b => none_ b ∨ b = w.heap.size) L := sats_fresh h.sat fun b hb => by
    rcases hb with hb | hb
    · exact .inl hb
    · exact .inr (by omega)
  refine sats_change h1 fun b _ hb => ?_
  rw [hh, Array.getElem?_push, if_neg (by omega)]

/-- Nothing that was there has changed; there may be new blocks. -/
theorem SH.below {w0 w w' : World} {L : List Asn} (h : SH w0 w L) (hos : w'.os = w.os) (ht : w'.tape = w.tape) (hout : w'.output = w.output)
    (hh : ∀ k, k < w.heap.size → w'.heap[k]? = w.heap[k]?) : SH w0 w' L :=
  ⟨hos.trans h.os, ht.trans h.tape, hout.trans h.output, sats_change h.sat fun b _ hb => hh b hb⟩

/-- The whole of a world, as it was. -/
def wholeA (w0 : World) : Asn where
  sat h S := w0.heap.size ≤ h.size ∧ (∀ k, k < w0.heap.size → h[k]? = w0.heap[k]?) ∧ ∀ k, S k ↔ k < w0.heap.size
  loc := by
    rintro h h' S ⟨h0, h1, h2⟩ hs
    have key : ∀ k, k < w0.heap.size → h'[k]? = w0.heap[k]? := fun k hk => (hs k ((h2 k).2 hk)).trans (h1 k hk)
    refine ⟨?_, key, h2⟩
    rcases Nat.lt_or_ge h'.size w0.heap.size with hl | hl
    · have := key h'.size hl
      rw [Array.getElem?_eq_none (Nat.le_refl _)] at this
      rw [Array.getElem?_eq_getElem hl] at this
      cases this
    · exact hl
  lt := fun ⟨h0, _, h2⟩ k hk => Nat.lt_of_lt_of_le ((h2 k).1 hk) h0

theorem SH.start (w : World) : SH w w [wholeA w] :=
  ⟨rfl, rfl, rfl, fun k => k < w.heap.size, ⟨Nat.le_refl _, fun _ _ => rfl, fun _ => Iff.rfl⟩, fun _ _ h => h, trivial⟩

theorem SH.whole {w0 w w1 : World} {L : List Asn} (h : SH w0 w (wholeA w1 :: L)) : w1.heap.size ≤ w.heap.size ∧ ∀ k, k < w1.heap.size → w.heap[k]? = w1.heap[k]? := by
  obtain ⟨S, h1, _⟩ := h.sat
  exact ⟨h1.1, h1.2.1⟩

/-- Some of a list, by their places (each counted in what is left), ahead of the others. -/
def picked {α : Type} : List Nat → List α → List α
  | [], L => L
  | i :: is, L => match L[i]? with
    | some A => A :: picked is (L.eraseIdx i)
    | none => L
theorem perm_erase {α : Type} : ∀ (L : List α) (i : Nat) (A : α), L[i]? = some A → L.Perm (A :: L.eraseIdx i)
  | [], i, A, h => by simp at h
  | B :: L, 0, A, h => by simp at h; subst h; simp
  | B :: L, i + 1, A, h => by
    have h' : L[i]? = some A := by simpa using h
    simpa using (List.Perm.cons B (perm_erase L i A h')).trans (List.Perm.swap A B _)
theorem picked_perm {α : Type} : ∀ (is : List Nat) (L : List α), L.Perm (picked is L)
  | [], L => by simp [picked]
  | i :: is, L => by
    unfold picked
    split
    · rename_i A hA
      exact (perm_erase L i A hA).trans (List.Perm.cons A (picked_perm is (L.eraseIdx i)))
    · exact List.Perm.refl _
theorem SH.pick {w0 w : World} {L : List Asn} (is : List Nat) (h : SH w0 w L) : SH w0 w (picked is L) := h.perm (picked_perm is L)

end Fw
