/- What a state of the executor says of a run's state; hard operations. -/
import Derived.Test.YtkignenfgilepaaPure2
namespace Go.SL
open Go Go.RowKit
set_option linter.unusedVariables false
set_option linter.unusedSimpArgs false
variable {P : Program}

/-- The world in which the function was called, and what it owned then. -/
structure Ctx where
  w0 : World
  h0 : Hp
/-- The world now: these chunks, and what stands beside them. -/
structure Now (c : Ctx) (W : World) (h hf : Hp) (cs : List Ch) : Prop where
  disj : Disj h hf
  inn : In W h
  inf : In W hf
  step : Step c.w0 c.h0 W (h.un hf)
  sat : satL cs h
theorem Now.un {c : Ctx} {W : World} {h hf : Hp} {cs : List Ch} (n : Now c W h hf cs) : In W (h.un hf) := n.inn.un n.inf

/-- A chunk's block stays where it is. -/
def Bs (cs cs' : List Ch) : Prop := ∀ (n : Nat) b cells T, cs'[n]? = some (.blk b cells T) → ∃ cells' T', cs[n]? = some (.blk b cells' T')
/-- Chunks said in another way. -/
def Ent (cs cs' : List Ch) : Prop := Bs cs cs' ∧ ∀ h, satL cs h → ∃ g : Hp, (∀ b o, g b = some o → h b = some o) ∧ satL cs' g
theorem Bs.refl (cs : List Ch) : Bs cs cs := fun n b cells T h => ⟨cells, T, h⟩
theorem Ent.refl (cs : List Ch) : Ent cs cs := ⟨Bs.refl cs, fun h s => ⟨h, fun _ _ e => e, s⟩⟩

section
variable (P) (c : Ctx)
def HN (r : OS) (s : Sem Next) (cs : List Ch) (fm : List (Nat × CF)) (k : r.ty → TupF fm → Prop) : Prop :=
  ∀ W h hf, Now c W h hf cs →
    (∃ x y W' h', s.run P W = .ok (.value (r.val x)) W' ∧ In W' h' ∧ Step W h W' h' ∧ satL (applyF fm y cs) h' ∧ k x y) ∨
    (∃ f args, s.run P W = .ok (.enter f args) W ∧ Calls P f args W fun e W' => ∃ x y h', e = .returned (r.val x) ∧ In W' h' ∧ Step W h W' h' ∧ satL (applyF fm y cs) h' ∧ k x y)
def HV (r : OS) (s : Sem Value) (cs : List Ch) (fm : List (Nat × CF)) (k : r.ty → TupF fm → Prop) : Prop :=
  ∀ W h hf, Now c W h hf cs → ∃ x y W' h', s.run P W = .ok (r.val x) W' ∧ In W' h' ∧ Step W h W' h' ∧ satL (applyF fm y cs) h' ∧ k x y
def HU (s : Sem Unit) (cs : List Ch) (fm : List (Nat × CF)) (k : TupF fm → Prop) : Prop :=
  ∀ W h hf, Now c W h hf cs → ∃ y W' h', s.run P W = .ok () W' ∧ In W' h' ∧ Step W h W' h' ∧ satL (applyF fm y cs) h' ∧ k y
def HL (r : OS) (s : Sem Value) (cs : List Ch) (k : r.ty → Prop) : Prop :=
  ∃ x, (∀ W h hf, Now c W h hf cs → s.run P W = .ok (r.val x) W) ∧ k x
def HLb (r : OS) (s : Sem Value) (k : r.ty → Prop) : Prop :=
  ∃ x, (∀ W h, In W h → Step c.w0 c.h0 W h → s.run P W = .ok (r.val x) W) ∧ k x
def HLoop (X : Type) (cs : List Ch) (fm : List (Nat × CF)) (x0 : X) (body : X → TupF fm → (X → List Ch → Prop) → Prop) : Prop :=
  ∃ (inv : X → TupF fm → Prop) (μ : X → TupF fm → Nat), (∃ y, Ent cs (applyF fm y cs) ∧ inv x0 y) ∧
    ∀ x y, inv x y → body x y fun x' cs' => ∃ y', Ent cs' (applyF fm y' cs) ∧ inv x' y' ∧ μ x' y' < μ x y
def HJoin (X : Type) (cs : List Ch) (fm : List (Nat × CF)) (a : (X → List Ch → Prop) → Prop) (b : X → TupF fm → Prop) : Prop :=
  ∃ J : X → TupF fm → Prop, a (fun x cs' => ∃ y, Ent cs' (applyF fm y cs) ∧ J x y) ∧ ∀ x y, J x y → b x y
def hops : HOps where
  call r f args := HN P c r (callFunc f args.toArray)
  v r s := HV P c r s
  u s := HU P c s
  ld r s := HL P c r s
  ldb r s := HLb P c r s
  n r s := HN P c r s
  loop X := HLoop X
  join X := HJoin X
end

/-! ### Chunks, one by one -/
theorem satL_get {cs : List Ch} {h : Hp} {i : Nat} {x : Ch} (s : satL cs h) (hi : cs[i]? = some x) :
    ∃ h1 h2, Disj h1 h2 ∧ h = h1.un h2 ∧ x.sat h1 ∧ ∀ x' g, x'.sat g → Disj g h2 → satL (cs.set i x') (g.un h2) := by
  induction cs generalizing h i with
  | nil => cases hi
  | cons y r ih =>
    obtain ⟨a, b, d, rfl, sa, sb⟩ := s
    cases i with
    | zero =>
      simp at hi; subst hi
      exact ⟨a, b, d, rfl, sa, fun x' g hg dg => ⟨g, b, dg, rfl, hg, sb⟩⟩
    | succ i =>
      simp at hi
      obtain ⟨h1, h2, d12, rfl, s1, hs⟩ := ih sb hi
      obtain ⟨da1, da2⟩ := disj_un_right.1 d
      refine ⟨h1, a.un h2, disj_un_right.2 ⟨da1.symm, d12⟩, ?_, s1, fun x' g hg dg => ?_⟩
      · rw [← Hp.un_assoc, Hp.un_comm da1, Hp.un_assoc]
      · obtain ⟨dga, dg2⟩ := disj_un_right.1 dg
        refine ⟨a, g.un h2, disj_un_right.2 ⟨dga.symm, da2⟩, ?_, sa, hs x' g hg dg2⟩
        rw [← Hp.un_assoc, Hp.un_comm dga, Hp.un_assoc]
theorem sub_in {W : World} {g h : Hp} (i : In W h) (s : ∀ b o, g b = some o → h b = some o) : In W g := fun b o e => i b o (s b o e)
theorem sub_ne {g h : Hp} (s : ∀ b o, g b = some o → h b = some o) (b : Nat) (hb : g b ≠ none) : h b ≠ none := by
  cases e : g b with
  | none => exact absurd e hb
  | some o => rw [s b o e]; simp

/-! ### Hard operations are what they say -/
/-- What a hard operation comes to. -/
def Comes1 (P : Program) (s : Sem Next) (W : World) (h : Hp) (cs : List Ch) (fm : List (Nat × CF)) (k : Value → TupF fm → Prop) : Prop :=
  (∃ v y W' h', (s.run P W = .ok (.value v) W' ∨ s.run P W = .ok .skip W' ∧ v = undef) ∧ In W' h' ∧ Step W h W' h' ∧ satL (applyF fm y cs) h' ∧ k v y) ∨
  (∃ f args, s.run P W = .ok (.enter f args) W ∧ Calls P f args W fun e W' => ∃ v y h', e = .returned v ∧ In W' h' ∧ Step W h W' h' ∧ satL (applyF fm y cs) h' ∧ k v y)

section
variable {c : Ctx} {s' : Sem Next} {cs : List Ch} {fm : List (Nat × CF)} {k : Value → TupF fm → Prop} {W : World} {h hf : Hp}
theorem comes_v {r : OS} {s : Sem Value} (H : HV P c r s cs fm fun v y => k (r.val v) y) (n : Now c W h hf cs)
    (hs : s'.run P W = (do pure (.value (← s)) : Sem Next).run P W) : Comes1 P s' W h cs fm k := by
  obtain ⟨x, y, W', h', hr, i, st, sa, hk⟩ := H W h hf n
  exact .inl ⟨r.val x, y, W', h', .inl (by rw [hs]; simp [hr]), i, st, sa, hk⟩
theorem comes_n {r : OS} {s : Sem Next} (H : HN P c r s cs fm fun v y => k (r.val v) y) (n : Now c W h hf cs)
    (hs : s'.run P W = s.run P W) : Comes1 P s' W h cs fm k := by
  rcases H W h hf n with ⟨x, y, W', h', hr, i, st, sa, hk⟩ | ⟨f, args, hr, hc⟩
  · exact .inl ⟨r.val x, y, W', h', .inl (by rw [hs]; exact hr), i, st, sa, hk⟩
  · exact .inr ⟨f, args, by rw [hs]; exact hr, hc.mono fun e W' ⟨x, y, h', he, i, st, sa, hk⟩ => ⟨r.val x, y, h', he, i, st, sa, hk⟩⟩
theorem comes_u {s : Sem Unit} (H : HU P c s cs fm fun y => k undef y) (n : Now c W h hf cs)
    (hs : s'.run P W = (do s; pure .skip : Sem Next).run P W) : Comes1 P s' W h cs fm k := by
  obtain ⟨y, W', h', hr, i, st, sa, hk⟩ := H W h hf n
  exact .inl ⟨undef, y, W', h', .inr ⟨by rw [hs]; simp [hr], rfl⟩, i, st, sa, hk⟩
end

theorem map_toArray (ρ : Operand → Value) (xs : Array Operand) {l : List Value} (h : xs.toList.map ρ = l) : xs.map ρ = l.toArray := by
  apply Array.ext'; simp [← h]

theorem hardS_ok {c : Ctx} {o : Oper} {e : Operand → Option Value} {ρ : Operand → Value} {cs : List Ch} {fm : List (Nat × CF)} {k : SVal → TupF fm → Prop}
    (he : ∀ x v, e x = some v → ρ x = v) (hfn : ∀ f, ρ (.func f) = .func (.func f) #[] #[]) (H : hardS P (hops P c) o e cs fm k) {W : World} {h hf : Hp} (n : Now c W h hf cs) :
    Comes1 P (execOp ρ o) W h cs fm fun v y => k (.raw v) y := by
  obtain ⟨dst, op, ty, pos, after, guard⟩ := o
  cases op with
  | store T x y =>
    simp only [hardS] at H
    cases hx : e x with
    | none => rw [hx] at H; exact H.elim
    | some a =>
      cases hy : e y with
      | none => rw [hx, hy] at H; exact H.elim
      | some b => rw [hx, hy] at H; exact comes_u (k := fun v y => k (.raw v) y) H n (by simp only [execOp]; rw [he x a hx, he y b hy])
  | makeSlice T x y =>
    simp only [hardS] at H
    cases hx : e x with
    | none => rw [hx] at H; exact H.elim
    | some a =>
      cases hy : e y with
      | none => rw [hx, hy] at H; exact H.elim
      | some b => rw [hx, hy] at H; exact comes_v (k := fun v y => k (.raw v) y) H n (by simp only [execOp]; rw [he x a hx, he y b hy])
  | convert s d x =>
    simp only [hardS] at H
    cases hx : e x with
    | none => rw [hx] at H; exact H.elim
    | some a => rw [hx] at H; exact comes_v (k := fun v y => k (.raw v) y) H n (by simp only [execOp]; rw [he x a hx])
  | binOp op T x y yt =>
    simp only [hardS] at H
    cases hx : e x with
    | none => rw [hx] at H; exact H.elim
    | some a =>
      cases hy : e y with
      | none => rw [hx, hy] at H; exact H.elim
      | some b => rw [hx, hy] at H; exact comes_v (k := fun v y => k (.raw v) y) H n (by simp only [execOp, hardBin]; rw [he x a hx, he y b hy])
  | lookup T x y ok =>
    simp only [hardS] at H
    cases hx : e x with
    | none => rw [hx] at H; exact H.elim
    | some a =>
      cases hy : e y with
      | none => rw [hx, hy] at H; exact H.elim
      | some b => rw [hx, hy] at H; exact comes_v (k := fun v y => k (.raw v) y) H n (by simp only [execOp]; rw [he x a hx, he y b hy])
  | mapUpdate T m x y =>
    simp only [hardS] at H
    cases hm : e m with
    | none => rw [hm] at H; exact H.elim
    | some d =>
      cases hx : e x with
      | none => rw [hm, hx] at H; exact H.elim
      | some a =>
        cases hy : e y with
        | none => rw [hm, hx, hy] at H; exact H.elim
        | some b => rw [hm, hx, hy] at H; exact comes_u (k := fun v y => k (.raw v) y) H n (by simp only [execOp]; rw [he m d hm, he x a hx, he y b hy])
  | insert T m x y =>
    simp only [hardS] at H
    cases hm : e m with
    | none => rw [hm] at H; exact H.elim
    | some d =>
      cases hx : e x with
      | none => rw [hm, hx] at H; exact H.elim
      | some a =>
        cases hy : e y with
        | none => rw [hm, hx, hy] at H; exact H.elim
        | some b => rw [hm, hx, hy] at H; exact comes_u (k := fun v y => k (.raw v) y) H n (by simp only [execOp]; rw [he m d hm, he x a hx, he y b hy])
  | makeMap T r =>
    cases r with
    | none => exact comes_v (k := fun v y => k (.raw v) y) H n rfl
    | some r => exact H.elim
  | range T x =>
    simp only [hardS] at H
    cases hx : e x with
    | none => rw [hx] at H; exact H.elim
    | some a => rw [hx] at H; exact comes_v (k := fun v y => k (.raw v) y) H n (by simp only [execOp]; rw [he x a hx])
  | next x s =>
    simp only [hardS] at H
    cases hx : e x with
    | none => rw [hx] at H; exact H.elim
    | some a => rw [hx] at H; exact comes_v (k := fun v y => k (.raw v) y) H n (by simp only [execOp]; rw [he x a hx])
  | entry x =>
    simp only [hardS] at H
    cases hx : e x with
    | none => rw [hx] at H; exact H.elim
    | some a => rw [hx] at H; exact comes_v (k := fun v y => k (.raw v) y) H n (by simp only [execOp]; rw [he x a hx])
  | typeAssert x T u ok =>
    simp only [hardS] at H
    cases hx : e x with
    | none => rw [hx] at H; exact H.elim
    | some a => rw [hx] at H; exact comes_v (k := fun v y => k (.raw v) y) H n (by simp only [execOp]; rw [he x a hx])
  | sliceToArrayPointer T x =>
    simp only [hardS] at H
    cases hx : e x with
    | none => rw [hx] at H; exact H.elim
    | some a => rw [hx] at H; exact comes_v (k := fun v y => k (.raw v) y) H n (by simp only [execOp]; rw [he x a hx])
  | index T x y =>
    simp only [hardS] at H
    cases hx : e x with
    | none => rw [hx] at H; exact H.elim
    | some a =>
      cases hy : e y with
      | none => rw [hx, hy] at H; exact H.elim
      | some b => rw [hx, hy] at H; exact comes_v (k := fun v y => k (.raw v) y) H n (by simp only [execOp]; rw [he x a hx, he y b hy])
  | indexAddr T x y =>
    simp only [hardS] at H
    cases hx : e x with
    | none => rw [hx] at H; exact H.elim
    | some a =>
      cases hy : e y with
      | none => rw [hx, hy] at H; exact H.elim
      | some b => rw [hx, hy] at H; exact comes_v (k := fun v y => k (.raw v) y) H n (by simp only [execOp]; rw [he x a hx, he y b hy])
  | slice T x lo hi mx =>
    simp only [hardS] at H
    cases hx : e x with
    | none => rw [hx] at H; exact H.elim
    | some a =>
      cases hl : optV e lo with
      | none => rw [hx, hl] at H; exact H.elim
      | some l =>
        cases hh : optV e hi with
        | none => rw [hx, hl, hh] at H; exact H.elim
        | some r =>
          cases hm : optV e mx with
          | none => rw [hx, hl, hh, hm] at H; exact H.elim
          | some m =>
            rw [hx, hl, hh, hm] at H
            exact comes_v (k := fun v y => k (.raw v) y) H n (by simp only [execOp]; rw [he x a hx, optV_ok he hl, optV_ok he hh, optV_ok he hm])
  | call cl =>
    obtain ⟨callee, args, argTypes⟩ := cl
    simp only [hardS] at H
    cases ha : allV e args.toList with
    | none => rw [ha] at H; exact H.elim
    | some l =>
      rw [ha] at H
      have hm := map_toArray ρ args (allV_ok he _ _ ha)
      cases callee with
      | value x =>
        cases x with
        | func f =>
          refine comes_n (k := fun v y => k (.raw v) y) H n ?_
          simp [execOp, resolve, hfn, Deferred.ofValue, invoke, hm]
        | tmp t =>
          simp only at H
          cases hx : e (.tmp t) with
          | none => rw [hx] at H; exact H.elim
          | some a =>
            rw [hx] at H
            refine comes_n (k := fun v y => k (.raw v) y) H n ?_
            simp only [execOp, resolve, he _ a hx, hm, callVal]
        | const t =>
          simp only at H
          cases hx : e (.const t) with
          | none => rw [hx] at H; exact H.elim
          | some a =>
            rw [hx] at H
            refine comes_n (k := fun v y => k (.raw v) y) H n ?_
            simp only [execOp, resolve, he _ a hx, hm, callVal]
        | global t =>
          simp only at H
          cases hx : e (.global t) with
          | none => rw [hx] at H; exact H.elim
          | some a =>
            rw [hx] at H
            refine comes_n (k := fun v y => k (.raw v) y) H n ?_
            simp only [execOp, resolve, he _ a hx, hm, callVal]
      | invoke x m =>
        simp only at H
        cases hx : e x with
        | none => rw [hx] at H; exact H.elim
        | some a =>
          rw [hx] at H
          refine comes_n (k := fun v y => k (.raw v) y) H n ?_
          simp [execOp, resolve, invoke, he x a hx, hm]
      | builtin b =>
        cases b <;> simp only at H <;> first
          | exact H.elim
          | (refine comes_v (k := fun v y => k (.raw v) y) H n ?_; simp [execOp, resolve, invoke, builtin, hm]; done)
  | _ => exact H.elim

end Go.SL
