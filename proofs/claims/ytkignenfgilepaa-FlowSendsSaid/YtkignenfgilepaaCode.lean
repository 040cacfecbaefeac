/- The executor over a function's text, and that it is sound. -/
import Derived.Test.YtkignenfgilepaaDraw
import Derived.Deep.LoopGhost
namespace Go.SL
open Go Go.RowKit
set_option linter.unusedVariables false
set_option linter.unusedSimpArgs false

/-- How a piece of text is left. -/
inductive SX where
  | normal | exit (id : Nat) | ret
def SX.to : SX → Exit
  | .normal => .normal | .exit id => .exit id | .ret => .ret
/-- The slots that a piece of text writes. -/
def assigned : Code → List Nat
  | .region _ ops _ => dsts ops.toList
  | .seq a b => assigned a ++ assigned b
  | .cond _ a b => assigned a ++ assigned b
  | .block _ c => assigned c
  | .loop c => assigned c
  | _ => []
def firstR : Code → Nat
  | .region id _ _ => id
  | .seq a _ => firstR a
  | .block _ c => firstR c
  | .loop c => firstR c
  | _ => 0
/-- A value as one of a shape. -/
def ofSc : (s : Sc) → Value → Option s.ty
  | .int k, .int k' n => (match decEq k' k with | isTrue _ => some n | isFalse _ => none)
  | .bool, .bool b => some b
  | .str, .string s => some s
  | .ptr, .pointer a => some a
  | .slc, .slice a n c => some (a, n, c)
  | .any, v => some v
  | _, _ => none
def ofScs : (l : List Sc) → List Value → Option (TupS l)
  | [], [] => some PUnit.unit
  | s :: r, v :: vs => (match ofSc s v, ofScs r vs with | some x, some y => some (x, y) | _, _ => none)
  | _, _ => none
def ofTS : (t : TS) → Value → Option t.ty
  | .one s, v => ofSc s v
  | .agg l, .agg cs => ofScs l cs.toList
  | .arr, .agg cs => some cs.toList
  | _, _ => none
@[reducible] def TupL : List (Nat × TS) → Type
  | [] => PUnit | (_, t) :: r => t.ty × TupL r
def valOf : SVal → Option Value
  | .raw v => some v | .lit b => some (.bool b) | .ptr _ _ => none
/-- The values of slots, by their shapes. -/
def takeL : (l : List (Nat × TS)) → (Nat → Sl) → Option (TupL l)
  | [], _ => some PUnit.unit
  | (i, t) :: r, sl => (match sl i with
    | .val v => (match valOf v with
      | some v => (match ofTS t v, takeL r sl with | some x, some y => some (x, y) | _, _ => none)
      | none => none)
    | _ => none)
def putL : (l : List (Nat × TS)) → TupL l → (Nat → Sl) → Nat → Sl
  | [], _, sl => sl
  | (i, t) :: r, x, sl => putL r x.2 (fun j => match decEq j i with | isTrue _ => .val (.raw (t.val x.1)) | isFalse _ => sl j)
def killS (l : List Nat) (sl : Nat → Sl) : Nat → Sl := fun i => match memN i l with | true => .unk | false => sl i
def noGs (sl : Nat → Sl) : Nat → Sl := fun i => match sl i with | .cnd _ _ _ => .unk | x => x
/-- A state with slots told anew, and chunks changed. -/
def St.anew (st : St) (l : List Nat) (lf : LF) (x : TupL lf.sl) (y : TupF lf.cs) : St :=
  { nt := st.nt, sl := putL lf.sl x (killS l (noGs st.sl)), gs := fun _ => false, cs := applyF lf.cs y st.cs }
def St.calm (st : St) : St := { st with sl := noGs st.sl, gs := fun _ => false }

section
variable (P : Program) (H : HOps) (an : Ann)
/-- Is a test's answer said ahead? -/
def fixOf (an : Ann) : Operand → Option Bool
  | .tmp t => findL t an.fix
  | _ => none
def exec : Code → St → (SX → St → Prop) → Prop
  | .skip, st, K => K .normal st
  | .region id ops draw, st, K => (match draw with
    | false => runOps P H an id ops (List.range ops.size) st fun st' => K .normal st'.calm
    | true => (match findL id an.ord with
      | some l => (match okDraw P ops (fun i => find2 id i an.fm) l with
        | true => runDraw P H (fun i => find2 id i an.fm) ops l st fun st' => K .normal st'.calm
        | false => False)
      | none => False))
  | .seq a b, st, K => (match findL (firstR b) an.joins with
    | none => exec a st fun e st' => (match e with | .normal => exec b st' K | e => K e st')
    | some lf => (match lostOk st.cs lf.cs with
      | true => H.join (TupL lf.sl) st.cs lf.cs
          (fun j => exec a st fun e st' => (match e with | .normal => (match takeL lf.sl st'.sl with | some x => j x st'.cs | none => False) | e => K e st'))
          (fun x y => exec b (st.anew (assigned a) lf x y) K)
      | false => False))
  | .cond c a b, st, K => (match ev st.sl none c with
    | some (.lit true) => exec a st K
    | some (.lit false) => exec b st K
    | some (.raw (.bool x)) => (match fixOf an c with
      | none => (x = true → exec a st K) ∧ (x = false → exec b st K)
      | some true => x = true ∧ exec a st K
      | some false => x = false ∧ exec b st K)
    | _ => False)
  | .block id c, st, K => exec c st fun e st' => (match e with | .exit id' => (match decEq id' id with | isTrue _ => K .normal st' | isFalse _ => K (.exit id') st') | e => K e st')
  | .loop c, st, K => (match findL (firstR c) an.loops with
    | none => False
    | some lf => (match takeL lf.sl st.sl, lostOk st.cs lf.cs with
      | some x0, true => H.loop (TupL lf.sl) st.cs lf.cs x0 fun x y next => exec c (st.anew (assigned c) lf x y) fun e st' =>
          (match e with | .normal => (match takeL lf.sl st'.sl with | some x => next x st'.cs | none => False) | e => K e st')
      | _, _ => False))
  | .exit id, st, K => K (.exit id) st
  | .ret, st, K => K .ret st
  | _, _, _ => False
end

section
variable {P : Program} {c : Ctx} {st : St} {a : Act} {w : World}

theorem runOps_ok {an : Ann} {rid : Nat} {ops : Array Oper} {Q : Exit → Act → World → Prop} {k : St → Prop} (a0 : Act)
    (hQ : ∀ st' a' w', Sat c st' a' w' → k st' → Same (dsts ops.toList) a0 a' → Q .normal a' w') :
    ∀ (l : List Nat) (st : St) (a : Act) (w : World), Sat c st a w → Same (dsts ops.toList) a0 a → runOps P (hops P c) an rid ops l st k → wpOps P ops Q l a w := by
  intro l
  induction l with
  | nil => intro st a w s hs H; exact hQ st a w s H hs
  | cons i r ih =>
    intro st a w s hs H
    simp only [runOps, stepOp] at H
    rw [wpOps_cons]
    cases ho : ops[i]? with
    | none => rw [ho] at H; exact H.elim
    | some o =>
      rw [ho] at H
      refine wpOp_mono ?_ (stepK_ok s ho H Q)
      rintro a' w' ⟨st', s', hk, x, rfl⟩
      refine ih st' _ w' s' (hs.trans' (same_put (fun d hd => mem_dsts hd ?_) x)) hk
      have := Array.mem_of_getElem? ho
      simpa using this

theorem Sat.calm (s : Sat c st a w) : Sat c st.calm a w := by
  refine ⟨s.size, s.defers, fun i v h => ?_, fun i t b v h => ?_, s.mem⟩
  · refine s.slot i v ?_
    simp only [St.calm, noGs] at h
    split at h
    · cases h
    · exact h
  · simp only [St.calm, noGs] at h
    split at h
    · cases h
    · rename_i hno; exact absurd h (hno t b v)

theorem ofSc_val {s : Sc} {v : Value} {x : s.ty} (h : ofSc s v = some x) : s.val x = v := by
  cases s <;> cases v <;> simp only [ofSc] at h <;> first
    | (split at h
       · rename_i e _; subst e; cases h; rfl
       · cases h)
    | (cases h; rfl)
    | (cases h)
theorem ofScs_val : ∀ {l : List Sc} {vs : List Value} {x : TupS l}, ofScs l vs = some x → TupS.vals l x = vs := by
  intro l
  induction l with
  | nil =>
    intro vs x h
    cases vs with
    | nil => rfl
    | cons v vs => cases h
  | cons s r ih =>
    intro vs x h
    cases vs with
    | nil => cases h
    | cons v vs =>
      simp only [ofScs] at h
      split at h
      · rename_i h1 h2
        cases h
        simp [TupS.vals, ofSc_val h1, ih h2]
      · cases h
theorem ofTS_val {t : TS} {v : Value} {x : t.ty} (h : ofTS t v = some x) : t.val x = v := by
  cases t with
  | one s => exact ofSc_val h
  | agg l =>
    cases v <;> simp only [ofTS] at h <;> first
      | (cases h; done)
      | (simp [TS.val, ofScs_val h])
  | arr =>
    cases v <;> simp only [ofTS] at h <;> first
      | (cases h; done)
      | (cases h; simp [TS.val])
theorem valOf_den {v : SVal} {y : Value} {cs : List Ch} (h : valOf v = some y) : v.den cs = some y := by
  cases v <;> simp_all [valOf, SVal.den]

/-- The slots that are told anew hold what is told. -/
theorem takeL_ok (s : Sat c st a w) : ∀ {l : List (Nat × TS)} {x : TupL l}, takeL l st.sl = some x → ∀ (sl : Nat → Sl) i v, putL l x sl i = .val v → (v.den st.cs = some (a.tmps.getD i undef) ∧ ∃ y, v = .raw y) ∨ sl i = .val v := by
  intro l
  induction l with
  | nil => intro x h sl i v hv; exact .inr hv
  | cons p r ih =>
    obtain ⟨j, t⟩ := p
    intro x h sl i v hv
    simp only [takeL] at h
    split at h
    · rename_i v' e
      split at h
      · rename_i y hy
        split at h
        · rename_i x1 x2 h1 h2
          cases h
          rcases ih h2 _ i v hv with h3 | h3
          · exact .inl h3
          · dsimp only at h3
            split at h3
            · rename_i e2 _
              subst e2
              cases h3
              left
              rw [ofTS_val h1]
              have := s.slot i v' e
              rw [valOf_den hy] at this
              exact ⟨this, _, rfl⟩
            · exact .inr h3
        · cases h
      · cases h
    · cases h
theorem putL_cnd : ∀ {l : List (Nat × TS)} {x : TupL l} {sl : Nat → Sl} {i t : Nat} {b : Bool} {v : SVal}, putL l x sl i = .cnd t b v → sl i = .cnd t b v := by
  intro l
  induction l with
  | nil => intro x sl i t b v h; exact h
  | cons p r ih =>
    obtain ⟨j, ts⟩ := p
    intro x sl i t b v h
    have := ih (x := x.2) h
    split at this
    · cases this
    · exact this

/-- A state told anew: what is kept is as it was at the beginning. -/
theorem anew_ok {st0 : St} {a0 : Act} {w0 : World} (s0 : Sat c st0 a0 w0) {l : List Nat} {lf : LF} (hl : lostOk st0.cs lf.cs = true) (s : Sat c st a w) (hsame : Same l a0 a)
    {x : TupL lf.sl} (hx : takeL lf.sl st.sl = some x) {y : TupF lf.cs} (he : Ent st.cs (applyF lf.cs y st0.cs)) : Sat c (st0.anew l lf x y) a w := by
  obtain ⟨hbs, hent⟩ := he
  refine ⟨hsame.1.trans s0.size, s.defers, fun i v h => ?_, fun i t b v h => ?_, ?_⟩
  · rcases takeL_ok s hx _ i v h with ⟨h1, y, rfl⟩ | h1
    · exact h1
    · simp only [killS] at h1
      split at h1
      · cases h1
      · rename_i hm
        have h1' : st0.sl i = .val v := by
          simp only [noGs] at h1
          split at h1
          · cases h1
          · exact h1
        have h2 := s0.slot i v h1'
        rw [← hsame.2 i hm] at h2
        refine den_apply h2 fun n off e => ?_
        subst e
        simp only [SVal.den] at h2
        split at h2
        · rename_i h; exact lostOk_not hl h
        · cases h2
  · have h1 := putL_cnd h
    simp only [killS] at h1
    split at h1
    · cases h1
    · simp only [noGs] at h1
      split at h1
      · cases h1
      · rename_i hno; exact absurd h1 (hno t b v)
  · obtain ⟨h, hin, hst, hsat⟩ := s.mem
    obtain ⟨g, hsub, hg⟩ := hent h hsat
    exact ⟨g, fun b o e => hin b o (hsub b o e), hst.drop fun b hb => by
      cases e : g b with
      | none => exact absurd e hb
      | some o => rw [hsub b o e]; simp, hg⟩

theorem exec_ok (an : Ann) : ∀ (cd : Code) {st : St} {a : Act} {w : World} {K : SX → St → Prop} {Q : Exit → Act → World → Prop}, Sat c st a w → exec P (hops P c) an cd st K →
    (∀ e st' a' w', Sat c st' a' w' → Same (assigned cd) a a' → K e st' → Q e.to a' w') → cd.wp P Q a w := by
  intro cd
  induction cd with
  | skip => intro st a w K Q s H hQ; exact wp_skip (hQ .normal st a w s (Same.refl _ _) H)
  | region id ops draw =>
    intro st a w K Q s H hQ
    cases draw with
    | false =>
      simp only [exec] at H
      exact wp_region (runOps_ok (k := fun st' => K .normal st'.calm) a (fun st' a' w' s' hk hs => hQ .normal _ a' w' s'.calm hs hk) _ st a w s (Same.refl _ _) H)
    | true =>
      simp only [exec] at H
      split at H
      · split at H
        · rename_i hok
          exact runDraw_wp id hok s H fun st' a' w' s' hk hs => hQ .normal _ a' w' s'.calm hs hk
        · exact H.elim
      · exact H.elim
  | seq x y ihx ihy =>
    intro st a w K Q s H hQ
    simp only [exec] at H
    split at H
    · refine wp_seq (ihx s H fun e st' a' w' s' hs hk => ?_)
      cases e with
      | normal => exact ihy s' hk fun e st2 a2 w2 s2 hs2 hk2 => hQ e st2 a2 w2 s2 (hs.trans hs2) hk2
      | exit id => exact hQ (.exit id) st' a' w' s' hs.left hk
      | ret => exact hQ .ret st' a' w' s' hs.left hk
    · rename_i lf _
      split at H
      · rename_i hl
        obtain ⟨J, hx, hy⟩ := H
        refine wp_seq (ihx s hx fun e st' a' w' s' hs hk => ?_)
        cases e with
        | normal =>
          simp only at hk
          split at hk
          · rename_i x0 htk
            obtain ⟨y0, he, hJ⟩ := hk
            exact ihy (anew_ok s hl s' hs htk he) (hy _ _ hJ) fun e st2 a2 w2 s2 hs2 hk2 => hQ e st2 a2 w2 s2 (hs.trans hs2) hk2
          · exact hk.elim
        | exit id => exact hQ (.exit id) st' a' w' s' hs.left hk
        | ret => exact hQ .ret st' a' w' s' hs.left hk
      · exact H.elim
  | cond cx x y ihx ihy =>
    intro st a w K Q s H hQ
    simp only [exec] at H
    have hev : ∀ v, ev st.sl none cx = some v → v.den st.cs = some (a.eval cx) := fun v h => ev_ok s (fun t b e => by cases e) h
    split at H
    · rename_i e
      exact wp_cond_true (Option.some.inj (hev _ e)).symm (ihx s H fun e st' a' w' s' hs hk => hQ e st' a' w' s' hs.left hk)
    · rename_i e
      exact wp_cond_false (Option.some.inj (hev _ e)).symm (ihy s H fun e st' a' w' s' hs hk => hQ e st' a' w' s' hs.right hk)
    · rename_i b e
      split at H
      · refine wp_cond_split (Option.some.inj (hev _ e)).symm (fun hb => ?_) fun hb => ?_
        · exact ihx s (H.1 hb) fun e st' a' w' s' hs hk => hQ e st' a' w' s' hs.left hk
        · exact ihy s (H.2 hb) fun e st' a' w' s' hs hk => hQ e st' a' w' s' hs.right hk
      · obtain ⟨hb, H⟩ := H
        subst hb
        exact wp_cond_true (Option.some.inj (hev _ e)).symm (ihx s H fun e st' a' w' s' hs hk => hQ e st' a' w' s' hs.left hk)
      · obtain ⟨hb, H⟩ := H
        subst hb
        exact wp_cond_false (Option.some.inj (hev _ e)).symm (ihy s H fun e st' a' w' s' hs hk => hQ e st' a' w' s' hs.right hk)
    · exact H.elim
  | block id x ih =>
    intro st a w K Q s H hQ
    simp only [exec] at H
    refine wp_block (ih s H fun e st' a' w' s' hs hk => ?_)
    cases e with
    | normal => exact hQ .normal st' a' w' s' hs hk
    | ret => exact hQ .ret st' a' w' s' hs hk
    | exit id' =>
      simp only at hk
      show Exit.inBlock id Q (.exit id') a' w'
      simp only [Exit.inBlock]
      split at hk
      · rename_i e _; rw [if_pos e]; exact hQ .normal st' a' w' s' hs hk
      · rename_i e _; rw [if_neg e]; exact hQ (.exit id') st' a' w' s' hs hk
  | loop x_1 ih =>
    intro st a w K Q s H hQ
    simp only [exec] at H
    split at H
    · exact H.elim
    · rename_i lf _
      split at H
      · rename_i x0 htk hl
        obtain ⟨inv, μ, ⟨y0, he0, hi0⟩, hround⟩ := H
        refine wp_loop_ghost (fun n a' w' => ∃ x y, inv x y ∧ μ x y = n ∧ Sat c (st.anew (assigned x_1) lf x y) a' w' ∧ Same (assigned x_1) a a') (μ x0 y0) ⟨x0, y0, hi0, rfl, anew_ok s hl s (Same.refl _ _) htk he0, Same.refl _ _⟩ ?_
        rintro n a' w' ⟨x, y, hi, hμ, s', hs'⟩
        refine ih s' (hround x y hi) fun e st2 a2 w2 s2 hs2 hk2 => ?_
        cases e with
        | normal =>
          simp only at hk2
          split at hk2
          · rename_i x' htk'
            obtain ⟨y', he', hi', hlt⟩ := hk2
            exact ⟨μ x' y', by rw [← hμ]; exact hlt, x', y', hi', rfl, anew_ok s hl s2 (hs'.trans' hs2) htk' he', hs'.trans' hs2⟩
          · exact hk2.elim
        | exit id => exact hQ (.exit id) st2 a2 w2 s2 (hs'.trans' hs2) hk2
        | ret => exact hQ .ret st2 a2 w2 s2 (hs'.trans' hs2) hk2
      · exact H.elim
  | exit id => intro st a w K Q s H hQ; exact wp_exit (hQ (.exit id) st a w s (Same.refl _ _) H)
  | ret => intro st a w K Q s H hQ; exact wp_ret (hQ .ret st a w s (Same.refl _ _) H)
  | rangeFunc _ _ _ _ _ _ => intro st a w K Q s H hQ; exact H.elim
  | scope _ _ => intro st a w K Q s H hQ; exact H.elim
  | label _ => intro st a w K Q s H hQ; exact H.elim
  | goto _ => intro st a w K Q s H hQ; exact H.elim
  | refuse _ => intro st a w K Q s H hQ; exact H.elim

end
end Go.SL
