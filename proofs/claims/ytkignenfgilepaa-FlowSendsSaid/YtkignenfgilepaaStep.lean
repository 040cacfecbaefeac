/- One operation of the executor is sound. -/
import Derived.Test.YtkignenfgilepaaSat
namespace Go.SL
open Go Go.RowKit
set_option linter.unusedVariables false
set_option linter.unusedSimpArgs false
variable {P : Program}

/-- The run's state is as the executor's state says. -/
structure Sat (c : Ctx) (st : St) (a : Act) (w : World) : Prop where
  size : a.tmps.size = st.nt
  defers : a.defers = []
  slot : ∀ i v, st.sl i = .val v → v.den st.cs = some (a.tmps.getD i undef)
  cnd : ∀ i t b v, st.sl i = .cnd t b v → st.gs t = true ∧ (a.tmps.getD t undef = .bool b → v.den st.cs = some (a.tmps.getD i undef)) ∧ (a.tmps.getD t undef ≠ .bool b → a.tmps.getD i undef = undef)
  mem : ∃ h, In w h ∧ Step c.w0 c.h0 w h ∧ satL st.cs h

theorem getD_set_eq {a : Array Value} {d : Nat} (h : d < a.size) (x : Value) : (a.setIfInBounds d x).getD d undef = x := by
  simp [h]
theorem getD_set_ne {a : Array Value} {d i : Nat} (h : i ≠ d) (x : Value) : (a.setIfInBounds d x).getD i undef = a.getD i undef := by
  simp only [Array.getD_eq_getD_getElem?]
  rw [Array.getElem?_setIfInBounds, if_neg (Ne.symm h)]

theorem den_nil {v : SVal} {y : Value} (cs : List Ch) (h : v.den [] = some y) : v.den cs = some y := by
  cases v <;> simp_all [SVal.den]

section
variable {c : Ctx} {st : St} {a : Act} {w : World}

theorem ev_ok (s : Sat c st a w) {g : Option (Nat × Bool)} (hg : ∀ t b, g = some (t, b) → a.tmps.getD t undef = .bool b) {x : Operand} {v : SVal}
    (h : ev st.sl g x = some v) : v.den st.cs = some (a.eval x) := by
  cases x with
  | tmp t =>
    simp only [ev] at h
    cases e : st.sl t with
    | unk => rw [e] at h; cases h
    | val v' => rw [e] at h; cases h; exact s.slot t _ e
    | cnd t' b v' =>
      rw [e] at h
      simp only at h
      obtain ⟨_, h1, _⟩ := s.cnd t t' b v' e
      cases hb : gMatch g t' b with
      | true =>
        rw [hb] at h
        cases h
        refine h1 ?_
        cases g with
        | none => cases hb
        | some p =>
          obtain ⟨t2, w2⟩ := p
          simp only [gMatch] at hb
          split at hb
          · rename_i e2 _
            subst e2
            have := hg t2 w2 rfl
            rw [this]
            simpa using hb
          · cases hb
      | false => rw [hb] at h; cases h
  | const v' => simp only [ev] at h; cases h; cases v' <;> rfl
  | global g => simp only [ev] at h; cases h; rfl
  | func f => simp only [ev] at h; cases h; rfl

theorem evV_ok (s : Sat c st a w) {g : Option (Nat × Bool)} (hg : ∀ t b, g = some (t, b) → a.tmps.getD t undef = .bool b) {x : Operand} {y : Value}
    (h : evV st.sl st.cs g x = some y) : a.eval x = y := by
  unfold evV at h
  cases e : ev st.sl g x with
  | none => rw [e] at h; cases h
  | some v => rw [e] at h; have := ev_ok s hg e; simp only at h; rw [h] at this; exact (Option.some.inj this).symm
theorem evV_nil_ok (s : Sat c st a w) {g : Option (Nat × Bool)} (hg : ∀ t b, g = some (t, b) → a.tmps.getD t undef = .bool b) {x : Operand} {y : Value}
    (h : evV st.sl [] g x = some y) : a.eval x = y := by
  unfold evV at h
  cases e : ev st.sl g x with
  | none => rw [e] at h; cases h
  | some v => rw [e] at h; have := ev_ok s hg e; simp only at h; rw [den_nil _ h] at this; exact (Option.some.inj this).symm

theorem Sat.put (s : Sat c st a w) {d : Option Nat} (hf : st.free d = true) (e : Sl) (x : Value) (hdt : ∀ t b v, e = .cnd t b v → d ≠ some t)
    (he : match e with | .unk => True | .val v => v.den st.cs = some x | .cnd t b v => (a.tmps.getD t undef = .bool b → v.den st.cs = some x) ∧ (a.tmps.getD t undef ≠ .bool b → x = undef)) :
    Sat c (st.put d e) (a.put d x) w := by
  have hgs : ∀ t, st.gs t = true → updG st.gs e t = true := fun t ht => by
    cases e <;> simp only [updG] <;> first | exact ht | (split <;> first | rfl | exact ht)
  cases d with
  | none =>
    refine ⟨s.size, s.defers, s.slot, fun i t b v h => ?_, s.mem⟩
    obtain ⟨h1, h2⟩ := s.cnd i t b v h
    exact ⟨hgs t h1, h2⟩
  | some d =>
    have hf' : d < a.tmps.size ∧ st.gs d = false := by
      simp only [St.free, Bool.and_eq_true, Bool.not_eq_true'] at hf
      exact ⟨by rw [s.size]; exact Nat.blt_eq ▸ hf.1, hf.2⟩
    obtain ⟨hd, hgd⟩ := hf'
    have hne : ∀ i t b v, st.sl i = .cnd t b v → t ≠ d := fun i t b v h hh => by
      subst hh; rw [(s.cnd i t b v h).1] at hgd; cases hgd
    refine ⟨by simp [Act.put, s.size, St.put], s.defers, fun i v h => ?_, fun i t b v h => ?_, s.mem⟩
    · simp only [St.put, updS] at h
      split at h
      · rename_i e2 _
        subst e2
        subst h
        show v.den st.cs = some ((a.tmps.setIfInBounds i x).getD i undef)
        rw [getD_set_eq hd]; exact he
      · rename_i e2 _
        show v.den st.cs = some ((a.tmps.setIfInBounds d x).getD i undef)
        rw [getD_set_ne e2]; exact s.slot i v h
    · simp only [St.put, updS] at h
      show updG st.gs e t = true ∧ ((a.tmps.setIfInBounds d x).getD t undef = .bool b → v.den st.cs = some ((a.tmps.setIfInBounds d x).getD i undef)) ∧ ((a.tmps.setIfInBounds d x).getD t undef ≠ .bool b → (a.tmps.setIfInBounds d x).getD i undef = undef)
      split at h
      · rename_i e2 _
        subst e2
        subst h
        obtain ⟨he1, he2⟩ := he
        refine ⟨by simp only [updG]; split <;> first | rfl | contradiction, fun ht => ?_, fun ht => ?_⟩
        · have htd : t ≠ i := fun hh => hdt t b v rfl (by rw [hh])
          rw [getD_set_eq hd]
          rw [getD_set_ne htd] at ht; exact he1 ht
        · have htd : t ≠ i := fun hh => hdt t b v rfl (by rw [hh])
          rw [getD_set_eq hd]
          rw [getD_set_ne htd] at ht; exact he2 ht
      · rename_i e2 _
        have h3 := hne i t b v h
        obtain ⟨h4, h5, h6⟩ := s.cnd i t b v h
        rw [getD_set_ne e2, getD_set_ne h3]
        exact ⟨hgs t h4, h5, h6⟩

/-! ### The guard -/
theorem yielded_getD (ops : Array Oper) (tmps : Array Value) (j t : Nat) (ht : dstOf ops j = some t) (b : Bool) :
    (yielded ops tmps j == some b) = true ↔ tmps.getD t undef = .bool b := by
  have h1 : (ops[j]?).bind (·.dst) = some t := by
    unfold dstOf at ht
    cases h : ops[j]? with
    | none => rw [h] at ht; cases ht
    | some o => rw [h] at ht; simpa using ht
  unfold yielded
  rw [h1]
  simp only [Option.bind_some, Array.getD_eq_getD_getElem?]
  cases h2 : tmps[t]? with
  | none => simp [undef]
  | some v =>
    cases v <;> simp
theorem wanted_iff (ops : Array Oper) (o : Oper) (tmps : Array Value) {j : Nat} {b : Bool} (hg : o.guard = some (j, b)) {t : Nat} (ht : dstOf ops j = some t) :
    Region.wanted o (yielded ops tmps) = true ↔ tmps.getD t undef = .bool b := by
  unfold Region.wanted
  rw [hg]
  exact yielded_getD ops tmps j t ht b

def GuardOk (ops : Array Oper) (o : Oper) (a : Act) (g : GS) : Prop :=
    match g with
    | .bad => True
    | .skip => Region.wanted o (yielded ops a.tmps) = false
    | .run none => Region.wanted o (yielded ops a.tmps) = true
    | .run (some (t, b)) => (Region.wanted o (yielded ops a.tmps) = true ↔ a.tmps.getD t undef = .bool b) ∧ o.dst ≠ some t
theorem guard_ok (s : Sat c st a w) {ops : Array Oper} {o : Oper} {g : GS} (h : guardS ops o st.sl = g) : GuardOk ops o a g := by
  unfold guardS at h
  cases hg : o.guard with
  | none => rw [hg] at h; subst h; show _ = _; simp [Region.wanted, hg]
  | some p =>
    obtain ⟨j, b⟩ := p
    rw [hg] at h
    simp only at h
    cases ht : dstOf ops j with
    | none => rw [ht] at h; simp only at h; subst h; trivial
    | some t =>
      rw [ht] at h
      simp only at h
      have hw := wanted_iff ops o a.tmps hg ht
      split at h
      · subst h; trivial
      · rename_i hnd
        have hne : o.dst ≠ some t := fun hh => by rw [hh] at hnd; simp [isDst] at hnd
        split at h
        · rename_i b2 e
          have h2 : Value.bool b2 = a.tmps.getD t undef := Option.some.inj (s.slot t _ e)
          split at h
          · rename_i hbb
            subst h
            exact hw.2 (by rw [← h2, eq_of_beq hbb])
          · rename_i hbb
            subst h
            show Region.wanted o (yielded ops a.tmps) = false
            cases hx : Region.wanted o (yielded ops a.tmps) with
            | false => rfl
            | true =>
              have := hw.1 hx
              rw [← h2] at this
              injection this with this
              subst this
              simp at hbb
        · subst h; exact ⟨hw, hne⟩
        · subst h; exact ⟨hw, hne⟩
        · subst h; trivial

/-! ### Pure operations with names -/
theorem ofPR_ok {o : Oper} {p : Option Prop} {v : SVal} {e : Operand → Option Value} (he : ∀ x y, e x = some y → a.eval x = y) (h : ofPR (pev P o.op e) = some (p, v)) :
    ∃ y, v = .raw y ∧ ((∀ q, p = some q → q) → ∀ W, (execOp a.eval o).run P W = .ok (.value y) W) := by
  have hk := pev_ok (P := P) (o := o) he (fun v => rfl)
  cases hp : pev P o.op e with
  | no => rw [hp] at h; cases h
  | val y => rw [hp] at h hk; cases h; exact ⟨y, rfl, fun _ => hk⟩
  | pre q y => rw [hp] at h hk; cases h; exact ⟨y, rfl, fun hq => hk (hq q rfl)⟩

theorem arm_ok (s : Sat c st a w) {g : Option (Nat × Bool)} (hg : ∀ t b, g = some (t, b) → a.tmps.getD t undef = .bool b) {cx x : Operand} {b q : Bool}
    (hc : a.eval cx = .bool b) (h : armOf st.sl g cx b x = some q) : a.eval x = .bool q := by
  have key : ∀ v, v.den st.cs = some (a.eval x) → boolOf v = some q → a.eval x = .bool q := fun v hd hb => by
    cases v with
    | raw y => cases y <;> simp_all [boolOf, SVal.den]
    | lit b => simp_all [boolOf, SVal.den]
    | ptr n off => simp [boolOf] at hb
  unfold armOf at h
  cases e : ev st.sl g x with
  | some v => rw [e] at h; exact key v (ev_ok s hg e) h
  | none =>
    rw [e] at h
    simp only at h
    split at h
    · rename_i t
      split at h
      · rename_i v e2
        refine key v (ev_ok s (fun t2 b2 h2 => ?_) e2) h
        cases h2
        exact hc
      · cases h
    · cases h

theorem pureS_ok (s : Sat c st a w) {g : Option (Nat × Bool)} (hg : ∀ t b, g = some (t, b) → a.tmps.getD t undef = .bool b) {o : Oper} {p : Option Prop} {v : SVal} {cs : List Ch}
    (hcs : cs = st.cs ∨ cs = []) (h : pureS P o.op st.sl cs g = some (p, v)) : ∃ y, v.den st.cs = some y ∧ ((∀ q, p = some q → q) → ∀ W, (execOp a.eval o).run P W = .ok (.value y) W) := by
  have he : ∀ x y, evV st.sl cs g x = some y → a.eval x = y := fun x y hx => by
    rcases hcs with rfl | rfl
    · exact evV_ok s hg hx
    · exact evV_nil_ok s hg hx
  have hpr : ofPR (pev P o.op (evV st.sl cs g)) = some (p, v) → ∃ y, v.den st.cs = some y ∧ ((∀ q, p = some q → q) → ∀ W, (execOp a.eval o).run P W = .ok (.value y) W) := fun h =>
    let ⟨y, hy, hr⟩ := ofPR_ok he h
    ⟨y, by rw [hy]; rfl, hr⟩
  obtain ⟨dst, op, ty, pos, after, guard⟩ := o
  cases op with
  | move x =>
    simp only [pureS] at h
    split at h
    · rename_i v' e
      cases h
      exact ⟨_, ev_ok s hg e, fun _ W => rfl⟩
    · cases h
  | assign x =>
    simp only [pureS] at h
    split at h
    · rename_i v' e
      cases h
      exact ⟨_, ev_ok s hg e, fun _ W => rfl⟩
    · cases h
  | pick cx x y =>
    simp only [pureS] at h
    split at h
    · rename_i e
      have hc : a.eval cx = .bool true := (Option.some.inj (ev_ok s hg e)).symm
      split at h
      · rename_i v' e2
        cases h
        exact ⟨_, ev_ok s hg e2, fun _ W => by simp [execOp, hc, asBool]⟩
      · cases h
    · rename_i e
      have hc : a.eval cx = .bool false := (Option.some.inj (ev_ok s hg e)).symm
      split at h
      · rename_i v' e2
        cases h
        exact ⟨_, ev_ok s hg e2, fun _ W => by simp [execOp, hc, asBool]⟩
      · cases h
    · rename_i b e
      have hc : a.eval cx = .bool b := (Option.some.inj (ev_ok s hg e)).symm
      split at h
      · rename_i p1 q1 h1 h2
        cases h
        refine ⟨_, rfl, fun _ W => ?_⟩
        have hb : (if b then a.eval x else a.eval y) = .bool (pickB x y b p1 q1) := by
          have hx : b = true → a.eval x = .bool p1 := fun e => by subst e; exact arm_ok s hg hc h1
          have hy : b = false → a.eval y = .bool q1 := fun e => by subst e; exact arm_ok s hg hc h2
          cases b with
          | true =>
            have hx' := hx rfl
            show a.eval x = _
            unfold pickB
            split
            · rfl
            · simpa using hx'
            · simpa using hx'
          | false =>
            have hy' := hy rfl
            show a.eval y = _
            unfold pickB
            split
            · simpa using hy'
            · rfl
            · simpa using hy'
        simp [execOp, hc, asBool, ← hb]
      · cases h
    · cases h
  | nilCheck x =>
    simp only [pureS] at h
    split at h
    · rename_i n off e
      cases h
      have hd := ev_ok s hg e
      refine ⟨_, hd, fun _ W => ?_⟩
      simp only [SVal.den] at hd
      split at hd
      · have := Option.some.inj hd
        simp [execOp, ← this]
      · cases hd
    · exact hpr h
  | fieldAddr T x f =>
    simp only [pureS] at h
    split at h
    · rename_i n off e
      have hd := ev_ok s hg e
      simp only [SVal.den] at hd
      split at h
      · rename_i fd hf
        split at h
        · cases h
        · rename_i hne _
          cases h
          obtain ⟨fs, hu, hfs⟩ := fieldP_run hf
          split at hd
          · rename_i b cells T' hcn
            have := Option.some.inj hd
            refine ⟨_, by simp only [SVal.den, hcn]; rfl, fun _ W => ?_⟩
            simp [execOp, ← this, Instr.fieldAt, Instr.sureAddr, run_underlyingP hu, hfs, fieldPlace, sizeP_run hne, hne, Addr.add_lit]
          · cases hd
      · cases h
    · exact hpr h
  | _ => exact hpr h

/-! ### Blocks -/
theorem cells_of_in {W : World} {b : Nat} {cs : List Value} {T : TypeId} {fr : Nat × Nat} (h : W.heap[b]? = some (.cells cs.toArray T fr)) (i : Nat) : W.cell? ⟨b, i, none⟩ = cs[i]? := by
  unfold World.cell?
  rw [h]
  simp
theorem loadCellsFrom_run {W : World} {b : Nat} {cs : List Value} {T : TypeId} {fr : Nat × Nat} (h : W.heap[b]? = some (.cells cs.toArray T fr)) (off : Nat) :
    ∀ (n i : Nat) (acc : Array Value), off + i + n ≤ cs.length → (loadCellsFrom ⟨b, off, none⟩ i n acc).run P W = .ok (acc ++ ((cs.drop (off + i)).take n).toArray) W := by
  intro n
  induction n with
  | zero => intro i acc _; simp [loadCellsFrom]
  | succ n ih =>
    intro i acc hn
    have hlt : off + i < cs.length := by omega
    have hc : W.cell? ((⟨b, off, none⟩ : Addr).add i) = some cs[off + i] := by
      rw [Addr.add_lit, cells_of_in h]
      simp [hlt]
    have := ih (i + 1) (acc.push cs[off + i]) (by omega)
    simp only [loadCellsFrom, Sem.run_bind, run_load, hc, Result.andThen_ok, this]
    congr 1
    apply Array.ext'
    simp only [Array.toList_append, Array.toList_push, List.append_assoc]
    congr 1
    rw [List.drop_eq_getElem_cons hlt]
    simp [List.take_succ_cons, Nat.add_assoc]
theorem loadVar_blk {W : World} {b : Nat} {cs : List Value} {T' : TypeId} {fr : Nat × Nat} (h : W.heap[b]? = some (.cells cs.toArray T' fr)) {T : TypeId} {d : TypeDesc} (hu : P.underlying T = some d) {off : Nat} {v : Value}
    (hle : off + sizeP P T ≤ cs.length) (hp : partL P T cs off = some v) : (loadVar T ⟨b, off, none⟩).run P W = .ok v W := by
  obtain ⟨i, hi⟩ := underlying_info hu
  unfold partL at hp
  simp only [loadVar, Sem.run_bind, isAggP_run hu, Result.andThen_ok]
  cases e : isAggP P T with
  | true =>
    rw [e] at hp
    simp only at hp
    cases hp
    simp only [if_true, Sem.run_bind, sizeP_some hi, Result.andThen_ok, loadCells]
    rw [loadCellsFrom_run h off _ 0 _ (by omega)]
    simp
  | false =>
    rw [e] at hp
    simp only at hp
    simp [cells_of_in h, hp]

theorem frozen_none {W : World} {b : Nat} {cs : Array Value} {T : TypeId} (h : W.heap[b]? = some (.cells cs T (0, 0))) (i : Nat) : W.frozen? ⟨b, i, none⟩ = false := by
  unfold World.frozen?
  rw [h]
  simp
theorem storeCells_run {b : Nat} {T : TypeId} (off : Nat) : ∀ (vs : List Value) (i : Nat) (cs : List Value) (W : World), W.heap[b]? = some (.cells cs.toArray T (0, 0)) → off + i + vs.length ≤ cs.length → allOne vs = true →
    ∃ W', (storeCells ⟨b, off, none⟩ vs i).run P W = .ok () W' ∧ W'.os = W.os ∧ W'.tape = W.tape ∧ W'.output = W.output ∧ W'.heap = W.heap.setIfInBounds b (.cells (setAt cs (off + i) vs).toArray T (0, 0)) := by
  intro vs
  induction vs with
  | nil =>
    intro i cs W h _ _
    refine ⟨W, rfl, rfl, rfl, rfl, ?_⟩
    simp only [setAt]
    obtain ⟨hb, he⟩ := Array.getElem?_eq_some_iff.1 h
    apply Array.ext
    · simp
    · intro j h1 h2
      rw [Array.getElem_setIfInBounds]
      split
      · subst_vars; exact he
      · rfl
  | cons v r ih =>
    intro i cs W h hl ho
    simp only [List.length_cons] at hl
    have hv : v.oneCell' = true ∧ allOne r = true := by
      cases v <;> simp_all [allOne, Value.oneCell']
    have hlt : off + i < cs.length := by omega
    have hc : W.cell? ((⟨b, off, none⟩ : Addr).add i) = some cs[off + i] := by
      rw [Addr.add_lit, cells_of_in h]; simp [hlt]
    have hf : W.frozen? ((⟨b, off, none⟩ : Addr).add i) = false := by rw [Addr.add_lit]; exact frozen_none h _
    obtain ⟨hb, he⟩ := Array.getElem?_eq_some_iff.1 h
    have hW : (W.setCell ((⟨b, off, none⟩ : Addr).add i) v).heap = W.heap.setIfInBounds b (.cells (cs.set (off + i) v).toArray T (0, 0)) := by
      rw [Addr.add_lit]
      simp only [World.setCell]
      apply Array.ext
      · simp
      · intro j h1 h2
        rw [Array.getElem_modify]
        split
        · subst_vars; rw [he]; simp
        · rename_i hne; rw [Array.getElem_setIfInBounds, if_neg hne]
    have h' : (W.setCell ((⟨b, off, none⟩ : Addr).add i) v).heap[b]? = some (.cells (cs.set (off + i) v).toArray T (0, 0)) := by
      rw [hW]; simp [hb]
    obtain ⟨W', hr, h1, h2, h3, h4⟩ := ih (i + 1) (cs.set (off + i) v) _ h' (by simp; omega) hv.2
    refine ⟨W', ?_, h1, h2, h3, ?_⟩
    · simp only [storeCells, Sem.run_bind, run_store P W _ v .plain hv.1, hc, hf, Bool.false_eq_true, if_false, Result.andThen_ok]
      exact hr
    · rw [h4, hW]
      simp [setAt, Nat.add_assoc]
theorem storeVar_blk {W : World} {b : Nat} {cs : List Value} {T T' : TypeId} (h : W.heap[b]? = some (.cells cs.toArray T' (0, 0))) {off : Nat} {v : Value} {d : TypeDesc} (hu : P.underlying T = some d)
    (hsz : v.cells.size = sizeP P T) (hle : off + v.cells.size ≤ cs.length) (ho : allOne v.cells.toList = true) :
    ∃ W', (storeVar T ⟨b, off, none⟩ v).run P W = .ok () W' ∧ W'.os = W.os ∧ W'.tape = W.tape ∧ W'.output = W.output ∧ W'.heap = W.heap.setIfInBounds b (.cells (setAt cs off v.cells.toList).toArray T' (0, 0)) := by
  obtain ⟨i, hi⟩ := underlying_info hu
  obtain ⟨W', hr, h'⟩ := storeCells_run (P := P) off v.cells.toList 0 cs W h (by simpa using hle) ho
  refine ⟨W', ?_, h'⟩
  simp only [storeVar, Sem.run_bind, sizeP_some hi, Result.andThen_ok]
  rw [if_neg (by simp [hsz])]
  exact hr
end
end Go.SL
