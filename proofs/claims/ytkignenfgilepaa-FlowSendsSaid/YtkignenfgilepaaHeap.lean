/- Heaplets: parts of the model's heap that a function owns; what a run may change. -/
import Derived.Calls
import Derived.Orders
import Derived.Below
namespace Go.SL
open Go Go.RowKit
set_option linter.unusedVariables false
set_option linter.unusedSimpArgs false

/-- A part of the heap. -/
abbrev Hp := Nat → Option Obj
def Hp.emp : Hp := fun _ => none
def Hp.one (b : Nat) (o : Obj) : Hp := fun x => if x = b then some o else none
def Hp.un (h g : Hp) : Hp := fun b => match h b with | some o => some o | none => g b
def Disj (h g : Hp) : Prop := ∀ b, h b = none ∨ g b = none
/-- The world has this part. -/
def In (W : World) (h : Hp) : Prop := ∀ b o, h b = some o → W.heap[b]? = some o

/-- From W, of which h is owned, to W', of which h' is owned: all else is kept. -/
structure Step (W : World) (h : Hp) (W' : World) (h' : Hp) : Prop where
  os : W'.os = W.os
  tape : W'.tape = W.tape
  output : W'.output = W.output
  size : W.heap.size ≤ W'.heap.size
  keep : ∀ b, b < W.heap.size → h b = none → W'.heap[b]? = W.heap[b]?
  dom : ∀ b, h' b ≠ none → h b ≠ none ∨ W.heap.size ≤ b

theorem Hp.un_none {h g : Hp} {b : Nat} : (h.un g) b = none ↔ h b = none ∧ g b = none := by
  unfold Hp.un; cases h b <;> simp
theorem Hp.un_emp (h : Hp) : h.un Hp.emp = h := by funext b; unfold Hp.un Hp.emp; cases h b <;> rfl
theorem Hp.emp_un (h : Hp) : Hp.emp.un h = h := by funext b; rfl
theorem Hp.un_assoc (h g k : Hp) : (h.un g).un k = h.un (g.un k) := by
  funext b; unfold Hp.un; cases h b <;> rfl
theorem Hp.un_comm {h g : Hp} (d : Disj h g) : h.un g = g.un h := by
  funext b; unfold Hp.un; rcases d b with e | e <;> rw [e] <;> cases (h b) <;> cases (g b) <;> simp_all
theorem Disj.symm {h g : Hp} (d : Disj h g) : Disj g h := fun b => (d b).symm
theorem Disj.emp_left (h : Hp) : Disj Hp.emp h := fun _ => .inl rfl
theorem Disj.emp_right (h : Hp) : Disj h Hp.emp := fun _ => .inr rfl
theorem disj_un_left {h g k : Hp} : Disj (h.un g) k ↔ Disj h k ∧ Disj g k := by
  constructor
  · intro d
    refine ⟨fun b => ?_, fun b => ?_⟩
    · rcases d b with e | e
      · exact .inl (Hp.un_none.1 e).1
      · exact .inr e
    · rcases d b with e | e
      · exact .inl (Hp.un_none.1 e).2
      · exact .inr e
  · rintro ⟨d1, d2⟩ b
    rcases d1 b with e | e
    · rcases d2 b with e' | e'
      · exact .inl (Hp.un_none.2 ⟨e, e'⟩)
      · exact .inr e'
    · exact .inr e
theorem disj_un_right {h g k : Hp} : Disj h (g.un k) ↔ Disj h g ∧ Disj h k :=
  ⟨fun d => let ⟨a, b⟩ := disj_un_left.1 d.symm; ⟨a.symm, b.symm⟩, fun ⟨a, b⟩ => (disj_un_left.2 ⟨a.symm, b.symm⟩).symm⟩

theorem In.emp (W : World) : In W Hp.emp := fun _ _ h => by cases h
theorem in_un {W : World} {h g : Hp} (d : Disj h g) : In W (h.un g) ↔ In W h ∧ In W g := by
  constructor
  · intro H
    refine ⟨fun b o e => H b o (by unfold Hp.un; rw [e]), fun b o e => H b o ?_⟩
    rcases d b with e' | e'
    · unfold Hp.un; rw [e']; exact e
    · rw [e] at e'; cases e'
  · rintro ⟨H1, H2⟩ b o e
    unfold Hp.un at e
    cases e1 : h b with
    | some x => rw [e1] at e; exact H1 b o (by rw [e1]; exact e)
    | none => rw [e1] at e; exact H2 b o e
theorem In.un {W : World} {h g : Hp} (H1 : In W h) (H2 : In W g) : In W (h.un g) := by
  intro b o e
  unfold Hp.un at e
  cases e1 : h b with
  | some x => rw [e1] at e; exact H1 b o (by rw [e1]; exact e)
  | none => rw [e1] at e; exact H2 b o e
theorem In.lt {W : World} {h : Hp} (H : In W h) {b : Nat} (hb : h b ≠ none) : b < W.heap.size := by
  cases e : h b with
  | none => exact absurd e hb
  | some o => exact (Array.getElem?_eq_some_iff.1 (H b o e)).1

theorem Step.refl (W : World) (h : Hp) : Step W h W h := ⟨rfl, rfl, rfl, Nat.le_refl _, fun _ _ _ => rfl, fun _ hb => .inl hb⟩
theorem Step.trans {W W1 W2 : World} {h h1 h2 : Hp} (s : Step W h W1 h1) (t : Step W1 h1 W2 h2) : Step W h W2 h2 where
  os := t.os.trans s.os
  tape := t.tape.trans s.tape
  output := t.output.trans s.output
  size := Nat.le_trans s.size t.size
  keep := fun b hb hn => by
    have hn1 : h1 b = none := by
      cases e : h1 b with
      | none => rfl
      | some o =>
        rcases s.dom b (by rw [e]; simp) with x | x
        · exact absurd hn x
        · omega
    rw [t.keep b (Nat.lt_of_lt_of_le hb s.size) hn1, s.keep b hb hn]
  dom := fun b hb => by
    rcases t.dom b hb with x | x
    · exact s.dom b x
    · exact .inr (Nat.le_trans s.size x)
/-- What is not touched stands beside it. -/
theorem Step.frame {W W' : World} {h h' f : Hp} (s : Step W h W' h') (d : Disj h f) (i : In W f) :
    Disj h' f ∧ In W' f ∧ Step W (h.un f) W' (h'.un f) := by
  refine ⟨fun b => ?_, fun b o e => ?_, ?_⟩
  · cases e : h' b with
    | none => exact .inl rfl
    | some o =>
      refine .inr ?_
      rcases s.dom b (by rw [e]; simp) with x | x
      · exact (d b).resolve_left x
      · cases e2 : f b with
        | none => rfl
        | some o2 => have := i.lt (b := b) (by rw [e2]; simp); omega
  · have hb := i.lt (b := b) (by rw [e]; simp)
    rw [s.keep b hb ((d b).resolve_right (by rw [e]; simp))]
    exact i b o e
  · refine ⟨s.os, s.tape, s.output, s.size, fun b hb hn => s.keep b hb (Hp.un_none.1 hn).1, fun b hb => ?_⟩
    by_cases e : h' b = none
    · have : f b ≠ none := fun e2 => hb (Hp.un_none.2 ⟨e, e2⟩)
      exact .inl fun e3 => this (Hp.un_none.1 e3).2
    · rcases s.dom b e with x | x
      · exact .inl fun e3 => x (Hp.un_none.1 e3).1
      · exact .inr x
/-- Less may be owned at the end. -/
theorem Step.drop {W W' : World} {h h' g : Hp} (s : Step W h W' h') (hg : ∀ b, g b ≠ none → h' b ≠ none) : Step W h W' g :=
  ⟨s.os, s.tape, s.output, s.size, s.keep, fun b hb => s.dom b (hg b hb)⟩
theorem Step.below {W W' : World} {h' : Hp} (s : Step W Hp.emp W' h') : Below W.heap.size W W' :=
  ⟨s.os, s.tape, s.output, s.size, fun b hb => s.keep b hb rfl⟩
theorem step_drew (W : World) (h : Hp) : Step W h { W with drawn := W.drawn + 1 } h := ⟨rfl, rfl, rfl, Nat.le_refl _, fun _ _ _ => rfl, fun _ hb => .inl hb⟩
theorem In.drew {W : World} {h : Hp} (H : In W h) : In { W with drawn := W.drawn + 1 } h := H
theorem disj_one {b c : Nat} {o p : Obj} : Disj (Hp.one b o) (Hp.one c p) ↔ b ≠ c := by
  constructor
  · intro d e
    subst e
    have := d b
    simp [Hp.one] at this
  · intro hne x
    by_cases e : x = b
    · right; unfold Hp.one; rw [if_neg (fun e2 => hne (e.symm.trans e2))]
    · left; unfold Hp.one; rw [if_neg e]
/-- A new block. -/
theorem step_new {W : World} {h : Hp} (H : In W h) (o : Obj) :
    Disj (Hp.one W.heap.size o) h ∧ In { W with heap := W.heap.push o } ((Hp.one W.heap.size o).un h) ∧
      Step W h { W with heap := W.heap.push o } ((Hp.one W.heap.size o).un h) := by
  have d : Disj (Hp.one W.heap.size o) h := fun b => by
    by_cases e : b = W.heap.size
    · right
      cases e2 : h b with
      | none => rfl
      | some x => have := H.lt (b := b) (by rw [e2]; simp); omega
    · left; unfold Hp.one; rw [if_neg e]
  have keep : ∀ b, b < W.heap.size → (W.heap.push o)[b]? = W.heap[b]? := fun b hb => by
    rw [Array.getElem?_push]; simp; omega
  refine ⟨d, (in_un d).2 ⟨fun b x e => ?_, fun b x e => ?_⟩, rfl, rfl, rfl, by simp, fun b hb _ => keep b hb, fun b hb => ?_⟩
  · unfold Hp.one at e
    split at e
    · rename_i e2; subst e2; cases e; simp
    · cases e
  · show (W.heap.push o)[b]? = some x
    rw [keep b (H.lt (by rw [e]; simp))]
    exact H b x e
  · by_cases e : b = W.heap.size
    · right; omega
    · left
      intro e2
      apply hb
      rw [Hp.un_none]
      exact ⟨by unfold Hp.one; rw [if_neg e], e2⟩
/-- An owned block is written. -/
theorem step_write {W : World} {h : Hp} {b : Nat} {o o' : Obj} (d : Disj (Hp.one b o) h) (H : In W ((Hp.one b o).un h)) {W' : World}
    (hos : W'.os = W.os) (htape : W'.tape = W.tape) (hout : W'.output = W.output) (hheap : W'.heap = W.heap.setIfInBounds b o') :
    Disj (Hp.one b o') h ∧ In W' ((Hp.one b o').un h) ∧ Step W ((Hp.one b o).un h) W' ((Hp.one b o').un h) := by
  obtain ⟨H1, H2⟩ := (in_un d).1 H
  have hb : b < W.heap.size := H1.lt (by unfold Hp.one; simp)
  have d' : Disj (Hp.one b o') h := fun x => by
    rcases d x with e | e
    · left; unfold Hp.one at e ⊢; split at e
      · cases e
      · rename_i e2; rw [if_neg e2]
    · exact .inr e
  refine ⟨d', (in_un d').2 ⟨fun x y e => ?_, fun x y e => ?_⟩, hos, htape, hout, by rw [hheap]; simp, fun x hx hn => ?_, fun x hx => ?_⟩
  · unfold Hp.one at e
    split at e
    · rename_i e2; subst e2; cases e; rw [hheap]; simp [hb]
    · cases e
  · have hne : x ≠ b := fun e2 => by
      subst e2
      rcases d x with e3 | e3
      · unfold Hp.one at e3; simp at e3
      · rw [e3] at e; cases e
    rw [hheap, Array.getElem?_setIfInBounds, if_neg (Ne.symm hne)]
    exact H2 x y e
  · have hne : x ≠ b := fun e2 => by
      subst e2
      have := (Hp.un_none.1 hn).1
      unfold Hp.one at this; simp at this
    rw [hheap, Array.getElem?_setIfInBounds, if_neg (Ne.symm hne)]
  · left
    intro e
    apply hx
    obtain ⟨e1, e2⟩ := Hp.un_none.1 e
    rw [Hp.un_none]
    refine ⟨?_, e2⟩
    unfold Hp.one at e1 ⊢
    split at e1
    · cases e1
    · rename_i e3; rw [if_neg e3]

/-- What a function does that owns h at its beginning. -/
def Ok (P : Program) (f : FuncId) (args : Array Value) (W : World) (h : Hp) (Q : Value → Hp → World → Prop) : Prop :=
  Calls P f args W fun e W' => ∃ v h', e = .returned v ∧ In W' h' ∧ Step W h W' h' ∧ Q v h' W'
theorem Ok.mono {P : Program} {f : FuncId} {args : Array Value} {W : World} {h : Hp} {Q Q' : Value → Hp → World → Prop}
    (H : Ok P f args W h Q) (hq : ∀ v h' W', In W' h' → Step W h W' h' → Q v h' W' → Q' v h' W') : Ok P f args W h Q' :=
  Calls.mono H fun _ W' ⟨v, h', e, i, s, q⟩ => ⟨v, h', e, i, s, hq v h' W' i s q⟩
theorem Ok.frame {P : Program} {f : FuncId} {args : Array Value} {W : World} {h g : Hp} {Q : Value → Hp → World → Prop}
    (H : Ok P f args W h Q) (d : Disj h g) (i : In W g) :
    Ok P f args W (h.un g) fun v h1 W' => ∃ h', h1 = h'.un g ∧ Disj h' g ∧ In W' g ∧ In W' h' ∧ Step W h W' h' ∧ Q v h' W' :=
  Calls.mono H fun _ W' ⟨v, h', e, i', s, q⟩ =>
    let ⟨d', i2, s2⟩ := s.frame d i
    ⟨v, h'.un g, e, i'.un i2, s2, h', rfl, d', i2, i', s, q⟩

end Go.SL
