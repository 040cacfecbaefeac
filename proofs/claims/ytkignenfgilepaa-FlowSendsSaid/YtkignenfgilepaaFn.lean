/- A whole function: what its text asks, and what follows. -/
import Derived.Test.YtkignenfgilepaaCode
namespace Go.SL
open Go Go.RowKit
set_option linter.unusedVariables false
set_option linter.unusedSimpArgs false

def retV : List Value → Value
  | [v] => v
  | l => .tuple l.toArray
/-- The results' values. -/
def resL (P : Program) (st : St) : List ResultVar → Option (List Value)
  | [] => some []
  | .tmp t :: r => (match st.sl t with
    | .val v => (match v.den st.cs, resL P st r with | some x, some l => some (x :: l) | _, _ => none)
    | _ => none)
  | .cell t T :: r => (match st.sl t with
    | .val (.ptr n off) => (match loadS P T st.cs n off, resL P st r with | some x, some l => some (x :: l) | _, _ => none)
    | _ => none)
def argS : Nat → List SVal → Nat → Sl
  | _, [], _ => .unk
  | i, v :: r, j => (match decEq j i with | isTrue _ => .val v | isFalse _ => argS (i + 1) r j)
def endK (P : Program) (rs : List ResultVar) (Q : List Value → List Ch → Prop) : SX → St → Prop
  | .exit _, _ => False
  | _, st => (match resL P st rs with | some l => Q l st.cs | none => False)
/-- What a function's text asks. -/
def execFn (P : Program) (H : HOps) (an : Ann) (fn : Func) (args : List SVal) (cs : List Ch) (Q : List Value → List Ch → Prop) : Prop :=
  match fn.body with
  | some body => exec P H an body { nt := fn.ntmps, sl := argS 0 args, gs := fun _ => false, cs := cs } (endK P fn.results.toList Q)
  | none => False

section
variable {P : Program} {c : Ctx} {st : St} {a : Act} {w : World}

def resSem (tmps : Array Value) : ResultVar → Sem Value
  | .tmp t => pure (tmps.getD t undef)
  | .cell x t => do loadVar t (← asAddr (tmps.getD x undef))
theorem results_eq (fn : Func) (tmps : Array Value) : results fn tmps = (do let vs ← fn.results.mapM (resSem tmps); pure (if h : vs.size = 1 then vs[0] else .tuple vs)) := by
  unfold results
  congr 1
theorem resL_ok (s : Sat c st a w) : ∀ {rs : List ResultVar} {l : List Value}, resL P st rs = some l →
    (rs.mapM (resSem a.tmps)).run P w = .ok l w := by
  intro rs
  induction rs with
  | nil => intro l h; simp only [resL] at h; cases h; rfl
  | cons r rs ih =>
    intro l h
    cases r with
    | tmp t =>
      simp only [resL] at h
      split at h
      · rename_i v e
        split at h
        · rename_i x l' h1 h2
          cases h
          have := s.slot t v e
          rw [h1] at this
          simp only [List.mapM_cons, resSem, Sem.run_bind, Sem.run_pure, Result.andThen_ok, ih h2, ← Option.some.inj this]
        · cases h
      · cases h
    | cell t T =>
      simp only [resL] at h
      split at h
      · rename_i n off e
        split at h
        · rename_i x l' h1 h2
          cases h
          have hd := s.slot t _ e
          simp only [SVal.den] at hd
          split at hd
          · rename_i b cells T' hcn
            have ha := Option.some.inj hd
            unfold loadS at h1
            rw [hcn] at h1
            split at h1
            · rename_i b' cells' T'' dd hcc hu
              cases hcc
              split at h1
              · rename_i hle _
                obtain ⟨h, hin, hst, hsat⟩ := s.mem
                obtain ⟨k1, k2, dj, rfl, hs1, _⟩ := satL_get hsat hcn
                have hb : w.heap[b]? = some (.cells cells.toArray T' (0, 0)) := by
                  refine hin b _ ?_
                  rw [hs1]; simp [Hp.un, Hp.one]
                have hrun := loadVar_blk (P := P) hb hu hle h1
                have hr1 : (resSem a.tmps (.cell t T)).run P w = .ok x w := by simp only [resSem, Sem.run_bind, ← ha, asAddr, Sem.run_pure, Result.andThen_ok, hrun]
                simp only [List.mapM_cons, Sem.run_bind, Sem.run_pure, Result.andThen_ok, hr1, ih h2]
              · cases h1
            · cases h1
          · cases hd
        · cases h
      · cases h

theorem results_ok (s : Sat c st a w) {fn : Func} {l : List Value} (h : resL P st fn.results.toList = some l) : (results fn a.tmps).run P w = .ok (retV l) w := by
  have h0 := resL_ok (P := P) s h
  rw [results_eq]
  have h1 : fn.results.toList.toArray.mapM (resSem a.tmps) = List.toArray <$> fn.results.toList.mapM (resSem a.tmps) := List.mapM_toArray
  have h2 : fn.results.toList.toArray = fn.results := by simp
  rw [h2] at h1
  simp only [Sem.run_bind]
  rw [h1, Sem.run_map, h0]
  simp only [Result.andThen_ok, Sem.run_pure]
  congr 1
  cases l with
  | nil => simp [retV]
  | cons x r =>
    cases r with
    | nil => simp [retV]
    | cons y r => simp [retV]

theorem argS_val : ∀ (args : List SVal) (i j : Nat) (v : SVal), argS i args j = .val v → i ≤ j ∧ args[j - i]? = some v := by
  intro args
  induction args with
  | nil => intro i j v h; cases h
  | cons x r ih =>
    intro i j v h
    simp only [argS] at h
    split at h
    · subst_vars; cases h; simp
    · rename_i hne _
      obtain ⟨h1, h2⟩ := ih _ _ _ h
      refine ⟨by omega, ?_⟩
      have : j - i = (j - (i + 1)) + 1 := by omega
      rw [this]; simpa using h2
theorem argS_cnd : ∀ (args : List SVal) (i j t : Nat) (b : Bool) (v : SVal), argS i args j ≠ .cnd t b v := by
  intro args
  induction args with
  | nil => intro i j t b v h; cases h
  | cons x r ih =>
    intro i j t b v h
    simp only [argS] at h
    split at h
    · cases h
    · exact ih _ _ _ _ _ h
/-- The arguments' values. -/
def denL (cs : List Ch) : List SVal → Option (List Value)
  | [] => some []
  | v :: r => match v.den cs, denL cs r with | some x, some l => some (x :: l) | _, _ => none
theorem denL_get {cs : List Ch} : ∀ {l : List SVal} {vs : List Value}, denL cs l = some vs → l.length = vs.length ∧ ∀ (i : Nat) (v : SVal), l[i]? = some v → ∃ x, v.den cs = some x ∧ vs[i]? = some x := by
  intro l
  induction l with
  | nil => intro vs h; simp only [denL] at h; cases h; exact ⟨rfl, fun i v h => by simp at h⟩
  | cons v r ih =>
    intro vs h
    simp only [denL] at h
    split at h
    · rename_i x l' h1 h2
      cases h
      obtain ⟨h3, h4⟩ := ih h2
      refine ⟨by simp [h3], fun i v' hv => ?_⟩
      cases i with
      | zero => simp at hv; subst hv; exact ⟨x, h1, rfl⟩
      | succ i => simp at hv ⊢; exact h4 i v' hv
    · cases h

/-- **What a function's text asks is enough.** -/
theorem execFn_ok (an : Ann) {f : FuncId} {fn : Func} (hf : P.funcs[f]? = some fn) {args : List SVal} {cs : List Ch} {vs : List Value} (hd : denL cs args = some vs) (hn : Nat.ble vs.length fn.ntmps = true)
    {W : World} {h : Hp} (hin : In W h) (hs : satL cs h) {Q : List Value → List Ch → Prop} (H : execFn P (hops P ⟨W, h⟩) an fn args cs Q) :
    Ok P f vs.toArray W h fun v h' W' => ∃ l cs', v = retV l ∧ satL cs' h' ∧ Q l cs' := by
  unfold execFn at H
  split at H
  · rename_i body hb
    have hn' := Nat.le_of_ble_eq_true hn
    obtain ⟨hlen, hget⟩ := denL_get hd
    refine calls_of_wp hf hb (exec_ok (c := ⟨W, h⟩) an body (st := { nt := fn.ntmps, sl := argS 0 args, gs := fun _ => false, cs := cs }) ⟨by simp; omega, rfl, fun i v hv => ?_, fun i t b v hv => absurd hv (argS_cnd _ _ _ _ _ _), ⟨h, hin, Step.refl _ _, hs⟩⟩ H ?_)
    · obtain ⟨_, h1⟩ := argS_val _ _ _ _ hv
      obtain ⟨x, hx, hvx⟩ := hget _ _ h1
      simp only [Nat.sub_zero] at hvx
      rw [hx]
      congr 1
      have hi : i < vs.length := (List.getElem?_eq_some_iff.1 hvx).1
      simp only [Array.getD_eq_getD_getElem?]
      rw [Array.getElem?_append_left (by simpa using hi)]
      simp [hvx]
    · intro e st' a' w' s' _ hk
      have fin : (match resL P st' fn.results.toList with | some l => Q l st'.cs | none => False) → bodyPost P fn (fun e W' => ∃ v h', e = .returned v ∧ In W' h' ∧ Step W h W' h' ∧ ∃ l cs', v = retV l ∧ satL cs' h' ∧ Q l cs') .ret a' w' := by
        intro hk
        split at hk
        · rename_i l hl
          obtain ⟨h', hin', hst', hsat'⟩ := s'.mem
          exact ⟨s'.defers, retV l, results_ok s' hl, retV l, h', rfl, hin', hst', l, st'.cs, rfl, hsat', hk⟩
        · exact hk.elim
      cases e with
      | normal => exact fin hk
      | ret => exact fin hk
      | exit id => exact hk.elim
  · exact H.elim
end
end Go.SL
