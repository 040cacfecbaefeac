/- One operation of the executor is sound, second part. -/
import Derived.Test.YtkignenfgilepaaStep
namespace Go.SL
open Go Go.RowKit
set_option linter.unusedVariables false
set_option linter.unusedSimpArgs false
variable {P : Program} {c : Ctx} {st : St} {a : Act} {w : World}

theorem wpOp_of {ops : Array Oper} {Q : Exit → Act → World → Prop} {i : Nat} {K : Act → World → Prop} {o : Oper} (ho : ops[i]? = some o)
    (h1 : Region.wanted o (yielded ops a.tmps) = true → o.wp P a w K Q) (h2 : Region.wanted o (yielded ops a.tmps) = false → K (a.put o.dst undef) w) : wpOp P ops Q i K a w := by
  unfold wpOp
  rw [ho]
  simp only
  cases hw : Region.wanted o (yielded ops a.tmps) with
  | true => simp only [if_true]; exact .inl (h1 hw)
  | false => simp only [Bool.false_eq_true, if_false]; exact h2 hw
theorem wp_val {Q : Exit → Act → World → Prop} {K : Act → World → Prop} {o : Oper} {y : Value} {w' : World} (h : (execOp a.eval o).run P w = .ok (.value y) w') (hk : K (a.put o.dst y) w') : o.wp P a w K Q := by
  unfold Oper.wp; rw [h]; exact hk
theorem wp_skp {Q : Exit → Act → World → Prop} {K : Act → World → Prop} {o : Oper} {w' : World} (h : (execOp a.eval o).run P w = .ok .skip w') (hk : K (a.put o.dst undef) w') : o.wp P a w K Q := by
  unfold Oper.wp; rw [h]; exact hk
theorem wp_ent {Q : Exit → Act → World → Prop} {K : Act → World → Prop} {o : Oper} {f : FuncId} {args : Array Value} {w' : World} (h : (execOp a.eval o).run P w = .ok (.enter f args) w')
    (hk : Calls P f args w' fun e w'' => ∃ v, e = .returned v ∧ K (a.put o.dst v) w'') : o.wp P a w K Q := by
  unfold Oper.wp; rw [h]
  exact hk.mono fun e w'' ⟨v, he, hk⟩ => by subst he; exact hk

theorem den_set {cs : List Ch} {n b : Nat} {cells cells' : List Value} {T T' : TypeId} (h : cs[n]? = some (.blk b cells T)) (v : SVal) :
    v.den (cs.set n (.blk b cells' T')) = v.den cs := by
  cases v with
  | raw y => rfl
  | lit b => rfl
  | ptr m off =>
    simp only [SVal.den, List.getElem?_set]
    by_cases e : n = m
    · subst e
      have hlt : n < cs.length := (List.getElem?_eq_some_iff.1 h).1
      rw [h]
      simp [hlt]
    · simp [e]
theorem den_new {cs : List Ch} {n : Nat} {x : Ch} (h : cs[n]? = some .none) {v : SVal} {y : Value} (hv : v.den cs = some y) : v.den (cs.set n x) = some y := by
  cases v with
  | raw y => exact hv
  | lit b => exact hv
  | ptr m off =>
    simp only [SVal.den, List.getElem?_set] at hv ⊢
    by_cases e : n = m
    · subst e; rw [h] at hv; cases hv
    · simp only [e, if_false]; exact hv

theorem Sat.chunks (s : Sat c st a w) {cs : List Ch} {w' : World} (hd : ∀ v : SVal, ∀ y, v.den st.cs = some y → v.den cs = some y) (hm : ∃ h, In w' h ∧ Step c.w0 c.h0 w' h ∧ satL cs h) :
    Sat c { st with cs := cs } a w' :=
  ⟨s.size, s.defers, fun i v h => hd _ _ (s.slot i v h), fun i t b v h => let ⟨h1, h2, h3⟩ := s.cnd i t b v h; ⟨h1, fun ht => hd _ _ (h2 ht), h3⟩, hm⟩

theorem Sat.putVal (s : Sat c st a w) {d : Option Nat} (hf : st.free d = true) {v : SVal} {x : Value} (h : v.den st.cs = some x) : Sat c (st.put d (.val v)) (a.put d x) w :=
  s.put hf (.val v) x (fun t b v h => by cases h) h
theorem range_repeat (z : Array Value) (hz : z.size ≠ 0) : ∀ n, ((Array.range (n * z.size)).map fun i => z[i % z.size]!) = (repeatL z.toList n).toArray := by
  have key : ∀ n, ((List.range (n * z.size)).map fun i => z[i % z.size]!) = repeatL z.toList n := by
    intro n
    induction n with
    | zero => simp [repeatL]
    | succ n ih =>
      have : (n + 1) * z.size = z.size + n * z.size := by rw [Nat.succ_mul, Nat.add_comm]
      rw [this, List.range_add, List.map_append, List.map_map]
      simp only [repeatL]
      congr 1
      · apply List.ext_getElem
        · simp
        · intro i h1 h2
          simp at h1
          simp [Nat.mod_eq_of_lt h1, h1]
      · rw [← ih]
        apply List.map_congr_left
        intro i _
        simp
  intro n
  rw [← key n]
  apply Array.ext'
  simp

/-- What is made, and where. -/
theorem allocR_ok {o : Oper} {e : Operand → Option Value} (he : ∀ x y, e x = some y → a.eval x = y) {cells : List Value} {T : TypeId} {sl : Option Nat} (h : allocR P o.op e = some (cells, T, sl)) (W : World) :
    (execOp a.eval o).run P W = .ok (.value (alV sl W.heap.size)) { W with heap := W.heap.push (.cells cells.toArray T (0, 0)) } := by
  obtain ⟨dst, op, ty, pos, after, guard⟩ := o
  cases op with
  | box T' x =>
    simp only [allocR] at h
    split at h
    · rename_i v hv
      cases h
      simp [execOp, Instr.box, newVar, newRow, he _ _ hv, alV]
    · cases h
  | alloc T' =>
    simp only [allocR] at h
    split at h
    · rename_i z hz
      cases h
      simp [execOp, Instr.alloc, newVar, newRow, zeroP_run hz, alV]
    · cases h
  | buildSlice T' n parts =>
    simp only [allocR] at h
    split at h
    · rename_i el hu
      split at h
      · rename_i z hz
        split at h
        · rename_i hsz hne hle _ _ _
          split at h
          · rename_i cs hc
            cases h
            have hfill := fillL_ok he _ _ _ hc
            have h0 : z.cells.size ≠ 0 := by rw [hsz]; exact hne
            have hr := range_repeat z.cells h0 n
            rw [hsz] at hr
            simp only [execOp, Instr.buildSlice, Sem.run_bind, run_underlyingP hu, Result.andThen_ok, zeroP_size hz]
            rw [if_neg (by simp; omega)]
            by_cases hn : n * sizeP P T = 0
            · have hn0 : n = 0 := by
                rcases Nat.mul_eq_zero.1 hn with h | h
                · exact h
                · exact absurd h hne
              subst hn0
              simp only [repeatL] at hfill
              simp only [Nat.zero_mul, if_true, Sem.run_pure, Result.andThen_ok, Array.range_zero', Array.map_empty, Array.toList_map]
              have : (#[] : Array Value) = ([] : List Value).toArray := rfl
              rw [this, hfill]
              simp [newRow, alV]
            · rw [if_neg hn]
              simp only [Sem.run_bind, zeroP_run hz, Result.andThen_ok, Sem.run_pure, Array.toList_map, hsz]
              rw [hr, hfill]
              simp [newRow, alV]
          · cases h
        · cases h
      · cases h
    · cases h
  | _ => cases h

/-- A block whose name is not lost is where it was. -/
theorem applyF_blk : ∀ (fm : List (Nat × CF)) (y : TupF fm) (cs : List Ch) (n b : Nat) (cells : List Value) (T : TypeId), lostN n fm = false → cs[n]? = some (.blk b cells T) →
    ∃ cells' T', (applyF fm y cs)[n]? = some (.blk b cells' T') := by
  intro fm
  induction fm with
  | nil => intro y cs n b cells T _ h; exact ⟨cells, T, h⟩
  | cons p r ih =>
    obtain ⟨m, f⟩ := p
    intro y cs n b cells T hl h
    have hlt : n < cs.length := (List.getElem?_eq_some_iff.1 h).1
    by_cases e : m = n
    · subst e
      cases f with
      | own => simp only [lostN] at hl; split at hl <;> first | cases hl | contradiction
      | gone => simp only [lostN] at hl; split at hl <;> first | cases hl | contradiction
      | blk l =>
        simp only [lostN] at hl
        refine ih y.2 _ m b (TupS.vals l y.1) T hl ?_
        rw [h]
        simp [CF.ch, hlt]
    · have hl' : lostN n r = false := by
        cases f with
        | own => simp only [lostN] at hl; split at hl <;> first | cases hl | exact hl
        | gone => simp only [lostN] at hl; split at hl <;> first | cases hl | exact hl
        | blk l => simpa only [lostN] using hl
      refine ih y.2 _ n b cells T hl' ?_
      rw [List.getElem?_set_ne e]; exact h
theorem den_apply {fm : List (Nat × CF)} {y : TupF fm} {cs : List Ch} {v : SVal} {x : Value} (hv : v.den cs = some x) (hl : ∀ n off, v = .ptr n off → lostN n fm = false) : v.den (applyF fm y cs) = some x := by
  cases v with
  | raw y => exact hv
  | lit b => exact hv
  | ptr n off =>
    simp only [SVal.den] at hv ⊢
    split at hv
    · rename_i b cells T h
      obtain ⟨cells', T', h'⟩ := applyF_blk fm y cs n b cells T (hl n off rfl) h
      rw [h']; exact hv
    · cases hv
theorem lostOk_not {cs : List Ch} : ∀ {fm : List (Nat × CF)}, lostOk cs fm = true → ∀ {n b cells T}, cs[n]? = some (.blk b cells T) → lostN n fm = false := by
  intro fm
  induction fm with
  | nil => intro _ n b cells T _; rfl
  | cons p r ih =>
    obtain ⟨m, f⟩ := p
    intro h n b cells T hn
    cases f with
    | blk l => simp only [lostOk] at h; simp only [lostN]; exact ih h hn
    | own =>
      simp only [lostOk] at h
      simp only [lostN]
      split at h
      · cases h
      · rename_i hno
        split
        · rename_i e _; subst e; exact absurd hn (hno _ _ _)
        · exact ih h hn
    | gone =>
      simp only [lostOk] at h
      simp only [lostN]
      split at h
      · cases h
      · rename_i hno
        split
        · rename_i e _; subst e; exact absurd hn (hno _ _ _)
        · exact ih h hn
theorem Sat.apply (s : Sat c st a w) (fm : List (Nat × CF)) (y : TupF fm) (hl : lostOk st.cs fm = true) {w' : World} (hm : ∃ h, In w' h ∧ Step c.w0 c.h0 w' h ∧ satL (applyF fm y st.cs) h) :
    Sat c { st with cs := applyF fm y st.cs } a w' := by
  refine s.chunks (fun v x hv => den_apply hv fun n off e => ?_) hm
  subst e
  simp only [SVal.den] at hv
  split at hv
  · rename_i h; exact lostOk_not hl h
  · cases hv

/-- A premise that is asked under a guard holds where the guard does. -/
theorem condP_ok (s : Sat c st a w) {g : Option (Nat × Bool)} (hg : ∀ t b, g = some (t, b) → a.tmps.getD t undef = .bool b) {p : Prop} (h : condP st.sl g p) : p := by
  cases g with
  | none => exact h
  | some q =>
    obtain ⟨t, b⟩ := q
    have ht := hg t b rfl
    simp only [condP] at h
    split at h
    · rename_i b2 e
      refine h ?_
      have h2 : Value.bool b2 = a.tmps.getD t undef := Option.some.inj (s.slot t _ e)
      rw [ht] at h2
      injection h2
    · rename_i t2 w2 b2 e
      obtain ⟨_, h1, h2⟩ := s.cnd t t2 w2 _ e
      have ht2 : a.tmps.getD t2 undef = .bool w2 := by
        by_cases hh : a.tmps.getD t2 undef = .bool w2
        · exact hh
        · rw [h2 hh] at ht; cases ht
      have h3 : Value.bool b2 = a.tmps.getD t undef := Option.some.inj (h1 ht2)
      rw [ht] at h3
      exact h (by injection h3)
    · exact h
theorem withP_ok {sl : Nat → Sl} {g : Option (Nat × Bool)} {p : Option Prop} {k : Prop} (h : withP sl g p k) : k ∧ ∀ q, p = some q → condP sl g q := by
  cases p with
  | none => exact ⟨h, fun q e => by cases e⟩
  | some p => exact ⟨h.2, fun q e => by cases e; exact h.1⟩

/-- What is known behind a pure operation. -/
theorem put_under (s : Sat c st a w) {ops : Array Oper} {o : Oper} (hf : st.free o.dst = true) {g : Option (Nat × Bool)} (hgd : GuardOk ops o a (.run g)) {v : SVal} {x : Value}
    (hv : Region.wanted o (yielded ops a.tmps) = true → v.den st.cs = some x) (hu : Region.wanted o (yielded ops a.tmps) = false → x = undef) :
    Sat c (st.put o.dst (under g v)) (a.put o.dst x) w := by
  cases g with
  | none => exact s.put hf _ x (fun t b v h => by cases h) (hv hgd)
  | some q =>
    obtain ⟨t, b⟩ := q
    obtain ⟨h1, h2⟩ := hgd
    refine s.put hf _ x (fun t b v h => by cases h; exact h2) ⟨fun ht => hv (h1.2 ht), fun ht => hu ?_⟩
    cases hw : Region.wanted o (yielded ops a.tmps) with
    | false => rfl
    | true => exact absurd (h1.1 hw) ht
theorem guard_hg {ops : Array Oper} {o : Oper} {g : Option (Nat × Bool)} (hgd : GuardOk ops o a (.run g)) (hw : Region.wanted o (yielded ops a.tmps) = true) : ∀ t b, g = some (t, b) → a.tmps.getD t undef = .bool b := by
  intro t b e
  subst e
  exact hgd.1.1 hw

theorem seeS_val {l : List Nat} {sl : Nat → Sl} {i : Nat} {x : Sl} (h : seeS l sl i = x) (hx : x ≠ .unk) : sl i = x := by
  unfold seeS at h
  split at h
  · exact h
  · exact absurd h.symm hx
theorem Sat.see (s : Sat c st a w) (l : List Nat) : Sat c { st with sl := seeS l st.sl } a w :=
  ⟨s.size, s.defers, fun i v h => s.slot i v (seeS_val h (by simp)), fun i t b v h => s.cnd i t b v (seeS_val h (by simp)), s.mem⟩

theorem keepL_sat {L : List Nat} : ∀ {cs : List Ch} {i : Nat} {h : Hp}, satL cs h → ∃ h1 h2, Disj h1 h2 ∧ h = h1.un h2 ∧ satL (keepL L i cs) h1 := by
  intro cs
  induction cs with
  | nil => intro i h s; exact ⟨h, Hp.emp, Disj.emp_right _, (Hp.un_emp h).symm, s⟩
  | cons x r ih =>
    intro i h s
    obtain ⟨a, b, d, rfl, sa, sb⟩ := s
    obtain ⟨h1, h2, d12, rfl, s1⟩ := ih (i := i + 1) sb
    obtain ⟨da1, da2⟩ := disj_un_right.1 d
    cases hm : memN i L with
    | true =>
      refine ⟨a.un h1, h2, disj_un_left.2 ⟨da2, d12⟩, by rw [Hp.un_assoc], ?_⟩
      simp only [keepL, hm]
      exact ⟨a, h1, da1, rfl, sa, s1⟩
    | false =>
      refine ⟨h1, a.un h2, disj_un_right.2 ⟨da1.symm, d12⟩, ?_, ?_⟩
      · rw [← Hp.un_assoc, Hp.un_comm da1, Hp.un_assoc]
      · simp only [keepL, hm]
        exact ⟨Hp.emp, h1, Disj.emp_left _, (Hp.emp_un h1).symm, rfl, s1⟩
theorem core_ok (s0 : Sat c st a w) {ops : Array Oper} {o : Oper} (hf : st.free o.dst = true) {sl : Nat → Sl} (s : Sat c { st with sl := sl } a w) {g : Option (Nat × Bool)} (hgd : GuardOk ops o a (.run g)) {i : Nat} (ho : ops[i]? = some o)
    {fm : List (Nat × CF)} {kk : Kd} {ce : List Ch} (hce : ce = st.cs ∨ ce = []) {k : St → Prop}
    (H : core P (hops P c) fm kk o g sl st.cs ce fun e => k (st.app o.dst e)) (Q : Exit → Act → World → Prop) : wpOp P ops Q i (fun a' w' => ∃ st', Sat c st' a' w' ∧ k st' ∧ ∃ x, a' = a.put o.dst x) a w := by
  have heV : ∀ x y, evV sl ce none x = some y → a.eval x = y := fun x y hx => by
    rcases hce with rfl | rfl
    · exact evV_ok s (fun t b e => by cases e) hx
    · exact evV_nil_ok s (fun t b e => by cases e) hx
  have pureCase : ∀ cs, (cs = st.cs ∨ cs = []) → (match pureS P o.op sl cs g with | some (p, v) => withP sl g p (k (st.put o.dst (under g v))) | none => False) →
      wpOp P ops Q i (fun a' w' => ∃ st', Sat c st' a' w' ∧ k st' ∧ ∃ x, a' = a.put o.dst x) a w := by
    intro cs hcs H
    cases hp : pureS P o.op sl cs g with
    | none => rw [hp] at H; exact H.elim
    | some pv =>
      obtain ⟨p, v⟩ := pv
      rw [hp] at H
      simp only at H
      obtain ⟨hk, hpre⟩ := withP_ok H
      refine wpOp_of ho (fun hw => ?_) fun hw => ⟨_, put_under s0 hf hgd (fun h => by rw [hw] at h; cases h) (fun _ => rfl), hk, _, rfl⟩
      have hg' := guard_hg hgd hw
      obtain ⟨y, hd, hr⟩ := pureS_ok (P := P) (o := o) s hg' hcs hp
      exact wp_val (hr (fun q e => condP_ok s hg' (hpre q e)) w) ⟨_, put_under s0 hf hgd (fun _ => hd) (fun h => by rw [hw] at h; cases h), hk, _, rfl⟩
  cases kk with
  | p => exact pureCase [] (.inr rfl) H
  | q => exact pureCase ce hce H
  | g =>
    refine pureCase ce hce ?_
    simp only [core] at H
    split at H
    · rename_i p v hp
      have hn : ∀ kk : SVal → Prop, nameS v kk → kk v := fun kk hk => by
        unfold nameS at hk
        split at hk
        · exact hk _ rfl
        · exact hk _ rfl
        · exact hk _ rfl
        · exact hk
      rw [hp]
      cases p with
      | none => exact hn (fun v => k (st.put o.dst (under g v))) H
      | some p => exact ⟨H.1, hn (fun v => k (st.put o.dst (under g v))) H.2⟩
    · exact H.elim
  | x =>
    simp only [core] at H
    split at H
    · rename_i b hp
      have hw : Region.wanted o (yielded ops a.tmps) = true := hgd
      refine wpOp_of ho (fun _ => ?_) fun h => by rw [hw] at h; cases h
      obtain ⟨y, hd, hr⟩ := pureS_ok (P := P) (o := o) s (fun t b e => by cases e) (.inr rfl) hp
      have hy : y = .bool b := (Option.some.inj hd).symm
      subst hy
      refine wp_val (hr (fun q e => by cases e) w) ?_
      cases b with
      | true => exact ⟨_, s0.putVal hf (v := .lit true) rfl, H.1 rfl, _, rfl⟩
      | false => exact ⟨_, s0.putVal hf (v := .lit false) rfl, H.2 rfl, _, rfl⟩
    · rename_i b hp
      have hw : Region.wanted o (yielded ops a.tmps) = true := hgd
      refine wpOp_of ho (fun _ => ?_) fun h => by rw [hw] at h; cases h
      obtain ⟨y, hd, hr⟩ := pureS_ok (P := P) (o := o) s (fun t b e => by cases e) (.inr rfl) hp
      have hy : y = .bool b := (Option.some.inj hd).symm
      subst hy
      exact wp_val (hr (fun q e => by cases e) w) ⟨_, s0.putVal hf (v := .lit b) rfl, H, _, rfl⟩
    · exact H.elim
  | l n off sz =>
    simp only [core] at H
    split at H
    · rename_i T x hop
      split at H
      · rename_i n' off' hev
        split at H
        · rename_i e1 e2 e3 v _ _ _ hl
          subst e1; subst e2
          refine wpOp_of ho (fun hw => ?_) fun hw => ⟨_, put_under s0 hf hgd (fun h => by rw [hw] at h; cases h) (fun _ => rfl), H, _, rfl⟩
          have hg' := guard_hg hgd hw
          have hd := ev_ok s hg' hev
          simp only [SVal.den] at hd
          split at hd
          · rename_i b cells T' hcn
            have ha := Option.some.inj hd
            unfold loadS at hl
            rw [hcn] at hl
            split at hl
            · rename_i b' cells' T'' dd hcc hu
              cases hcc
              split at hl
              · rename_i hle _
                obtain ⟨h, hin, hst, hsat⟩ := s0.mem
                obtain ⟨h1, h2, dj, rfl, hs1, _⟩ := satL_get hsat hcn
                have hb : w.heap[b]? = some (.cells cells.toArray T' (0, 0)) := by
                  refine hin b _ ?_
                  rw [hs1]; simp [Hp.un, Hp.one]
                have hrun := loadVar_blk (P := P) hb hu hle hl
                have : (execOp a.eval o).run P w = .ok (.value v) w := by
                  simp only [execOp, hop, Instr.loadAt, ← ha, Instr.sureAddr]
                  simp [hrun]
                exact wp_val this ⟨_, put_under s0 hf hgd (fun _ => rfl) (fun h => by rw [hw] at h; cases h), H, _, rfl⟩
              · cases hl
            · cases hl
          · cases hd
        · exact H.elim
      · exact H.elim
    · exact H.elim
  | b =>
    simp only [core] at H
    split at H
    · rename_i T x hop
      split at H
      · rename_i ad hev
        obtain ⟨v, hr, hk⟩ := H
        have hw : Region.wanted o (yielded ops a.tmps) = true := hgd
        refine wpOp_of ho (fun _ => ?_) fun h => by rw [hw] at h; cases h
        have he := evV_nil_ok s (fun t b e => by cases e) hev
        obtain ⟨h, hin, hst, hsat⟩ := s0.mem
        have : (execOp a.eval o).run P w = .ok (.value ((osOf P o.type).val v)) w := by
          simp only [execOp, hop, he]
          simp [hr w h hin hst]
        exact wp_val this ⟨_, s0.putVal hf rfl, hk, _, rfl⟩
      · exact H.elim
    · exact H.elim
  | r L =>
    simp only [core] at H
    split at H
    · rename_i t hrd
      obtain ⟨v, hr, hk⟩ := H
      have hw : Region.wanted o (yielded ops a.tmps) = true := hgd
      refine wpOp_of ho (fun _ => ?_) fun h => by rw [hw] at h; cases h
      obtain ⟨h, hin, hst, hsat⟩ := s0.mem
      obtain ⟨h1, h2, d, rfl, s1⟩ := keepL_sat (L := L) (i := 0) hsat
      obtain ⟨i1, i2⟩ := (in_un d).1 hin
      have hrun := hr w h1 h2 ⟨d, i1, i2, hst, s1⟩
      have : (execOp a.eval o).run P w = .ok (.value ((osOf P o.type).val v)) w := by
        unfold rdS at hrd
        split at hrd
        · rename_i T x hop
          split at hrd
          · rename_i ad hev
            cases hrd
            have he := evV_nil_ok s (fun t b e => by cases e) hev
            simp only [execOp, hop, he]
            simp [hrun]
          · cases hrd
        · rename_i sT dT x hop
          split at hrd
          · rename_i ad hev
            cases hrd
            have he := evV_nil_ok s (fun t b e => by cases e) hev
            simp only [execOp, hop, he]
            simp [hrun]
          · cases hrd
        · cases hrd
      exact wp_val this ⟨_, s0.putVal hf rfl, hk, _, rfl⟩
    · exact H.elim
  | a nm =>
    simp only [core] at H
    split at H
    · rename_i cells T n d ha hd hnone
      have hw : Region.wanted o (yielded ops a.tmps) = true := hgd
      refine wpOp_of ho (fun _ => ?_) fun h => by rw [hw] at h; cases h
      have hcn : st.cs[nm]? = some .none := by
        unfold isNoneCh at hnone
        split at hnone
        · assumption
        · cases hnone
      have hrun := allocR_ok (P := P) heV ha w
      obtain ⟨h, hin, hst, hsat⟩ := s0.mem
      obtain ⟨dj, hin', hst'⟩ := step_new hin (.cells cells.toArray T (0, 0))
      have s' : Sat c { st with cs := st.cs.set nm (.blk w.heap.size cells T) } a { w with heap := w.heap.push (.cells cells.toArray T (0, 0)) } := by
        refine s0.chunks (fun v y hv => den_new hcn hv) ⟨_, hin', hst.trans hst', ?_⟩
        obtain ⟨h1, h2, d12, rfl, hs1, hset⟩ := satL_get hsat hcn
        have : h1 = Hp.emp := hs1
        subst this
        rw [Hp.emp_un] at dj ⊢
        exact hset (.blk w.heap.size cells T) _ rfl dj
      have hlt : nm < st.cs.length := (List.getElem?_eq_some_iff.1 hcn).1
      have hden : (alS n w.heap.size nm).den (st.cs.set nm (.blk w.heap.size cells T)) = some (alV n w.heap.size) := by
        cases n with
        | none => simp [alS, alV, SVal.den, hlt]
        | some n => rfl
      exact wp_val hrun ⟨_, Sat.putVal (st := { st with cs := st.cs.set nm (.blk w.heap.size cells T) }) s' hf hden, H w.heap.size, _, rfl⟩
    · exact H.elim
  | o nm =>
    simp only [core] at H
    split at H
    · rename_i cells T n d ha hd hnone
      have hw : Region.wanted o (yielded ops a.tmps) = true := hgd
      refine wpOp_of ho (fun _ => ?_) fun h => by rw [hw] at h; cases h
      have hcn : st.cs[nm]? = some .none := by
        unfold isNoneCh at hnone
        split at hnone
        · assumption
        · cases hnone
      have hrun := allocR_ok (P := P) heV ha w
      obtain ⟨h, hin, hst, hsat⟩ := s0.mem
      obtain ⟨dj, hin', hst'⟩ := step_new hin (.cells cells.toArray T (0, 0))
      have s' : Sat c { st with cs := st.cs.set nm (.own fun h => h = Hp.one w.heap.size (.cells cells.toArray T (0, 0))) } a { w with heap := w.heap.push (.cells cells.toArray T (0, 0)) } := by
        refine s0.chunks (fun v y hv => den_new hcn hv) ⟨_, hin', hst.trans hst', ?_⟩
        obtain ⟨h1, h2, d12, rfl, hs1, hset⟩ := satL_get hsat hcn
        have : h1 = Hp.emp := hs1
        subst this
        rw [Hp.emp_un] at dj ⊢
        exact hset (.own fun h => h = Hp.one w.heap.size (.cells cells.toArray T (0, 0))) _ rfl dj
      have hlt : nm < st.cs.length := (List.getElem?_eq_some_iff.1 hcn).1
      have hden : (alS (some n) w.heap.size nm).den (st.cs.set nm (.own fun h => h = Hp.one w.heap.size (.cells cells.toArray T (0, 0)))) = some (alV (some n) w.heap.size) := by
        rfl
      exact wp_val hrun ⟨_, Sat.putVal (st := { st with cs := st.cs.set nm (.own fun h => h = Hp.one w.heap.size (.cells cells.toArray T (0, 0))) }) s' hf hden, H w.heap.size, _, rfl⟩
    · exact H.elim
  | s n off sz =>
    simp only [core] at H
    split at H
    · rename_i T x y hop hdst
      split at H
      · rename_i n' off' v b cells T' dd hev hvv hcn hu
        split at H
        · rename_i e1 e2 e3 e4 hle _ _ _ _ _
          subst e1; subst e2; subst e3
          have hw : Region.wanted o (yielded ops a.tmps) = true := hgd
          refine wpOp_of ho (fun _ => ?_) fun h => by rw [hw] at h; cases h
          have hone : allOne v.cells.toList = true ∧ k { st with cs := setBlk st.cs n' off' v.cells.toList } := by
            unfold withOne at H
            split at H
            · split at H
              · rename_i h; exact ⟨h, H⟩
              · exact H.elim
            · exact H
          obtain ⟨hone, hk⟩ := hone
          have hsb : setBlk st.cs n' off' v.cells.toList = st.cs.set n' (.blk b (setAt cells off' v.cells.toList) T') := by
            unfold setBlk; rw [hcn]
          rw [hsb] at hk
          have hdx := ev_ok s (fun t b e => by cases e) hev
          simp only [SVal.den, hcn] at hdx
          have hx := Option.some.inj hdx
          have hy := heV _ _ hvv
          obtain ⟨h, hin, hst, hsat⟩ := s0.mem
          obtain ⟨h1, h2, dj, rfl, hs1, hset⟩ := satL_get hsat hcn
          have hs1' : h1 = Hp.one b (.cells cells.toArray T' (0, 0)) := hs1
          subst hs1'
          have hb : w.heap[b]? = some (.cells cells.toArray T' (0, 0)) := hin b _ (by simp [Hp.un, Hp.one])
          obtain ⟨W', hr, ho1, ho2, ho3, ho4⟩ := storeVar_blk (P := P) hb hu e4 (by rw [e4]; exact hle) hone
          obtain ⟨dj', hin', hst'⟩ := step_write (o' := .cells (setAt cells off' v.cells.toList).toArray T' (0, 0)) dj hin ho1 ho2 ho3 ho4
          have hrun : (execOp a.eval o).run P w = .ok .skip W' := by
            simp only [execOp, hop, Instr.storeAt, ← hx, hy, Instr.sureAddr]
            simp [hr]
          refine wp_skp hrun ⟨_, ?_, hk, _, rfl⟩
          have := s0.chunks (cs := st.cs.set n' (.blk b (setAt cells off' v.cells.toList) T')) (w' := W') (fun v y hv => by rw [den_set hcn]; exact hv) ⟨_, hin', hst.trans hst', hset _ _ rfl dj'⟩
          rw [hdst]
          exact this
        · exact H.elim
      · exact H.elim
    · exact H.elim
  | h =>
    simp only [core] at H
    split at H
    · have hw : Region.wanted o (yielded ops a.tmps) = true := hgd
      refine wpOp_of ho (fun _ => ?_) fun h => by rw [hw] at h; cases h
      obtain ⟨h, hin, hst, hsat⟩ := s0.mem
      have now : Now c w h Hp.emp st.cs := ⟨Disj.emp_right _, hin, In.emp _, by rw [Hp.un_emp]; exact hst, hsat⟩
      split at H
      · rename_i T x hop
        split at H
        · rename_i ad hev
          obtain ⟨v, hr, hk⟩ := H
          have he := evV_ok s (fun t b e => by cases e) hev
          have : (execOp a.eval o).run P w = .ok (.value ((osOf P o.type).val v)) w := by
            simp only [execOp, hop, he]
            simp [hr w h _ now]
          exact wp_val this ⟨_, s0.putVal hf rfl, hk, _, rfl⟩
        · exact H.elim
      · split at H
        · rename_i hlost
          have hc := hardS_ok (P := P) (o := o) (ρ := a.eval) (fun x v h => evV_ok s (fun t b e => by cases e) h) (fun f => rfl) H now
          have fin : ∀ (v : Value) (y : TupF fm) (W' : World) (h' : Hp), In W' h' → Step w h W' h' → satL (applyF fm y st.cs) h' →
              Sat c (st.app o.dst (.hard (.raw v) y : Eff fm)) (a.put o.dst v) W' := by
            intro v y W' h' hi hs hsa
            have s1 := s0.apply fm y hlost (w' := W') ⟨h', hi, hst.trans hs, hsa⟩
            exact s1.putVal (d := o.dst) hf rfl
          rcases hc with ⟨v, y, W', h', hr, hi, hs, hsa, hk⟩ | ⟨f, args, hr, hcall⟩
          · rcases hr with hr | ⟨hr, rfl⟩
            · exact wp_val hr ⟨_, fin v y W' h' hi hs hsa, hk, _, rfl⟩
            · exact wp_skp hr ⟨_, fin undef y W' h' hi hs hsa, hk, _, rfl⟩
          · exact wp_ent hr (hcall.mono fun e W' ⟨v, y, h', he, hi, hs, hsa, hk⟩ => ⟨v, he, _, fin v y W' h' hi hs hsa, hk, _, rfl⟩)
        · exact H.elim
    · exact H.elim

theorem stepK_ok (s : Sat c st a w) {ops : Array Oper} {i : Nat} {o : Oper} (ho : ops[i]? = some o) {fm : List (Nat × CF)} {kd : Option (St → Option (Nat × Bool) → Kd)} {kd' : Kd} {k : St → Prop}
    (H : stepK P (hops P c) fm ops kd kd' o st k) (Q : Exit → Act → World → Prop) : wpOp P ops Q i (fun a' w' => ∃ st', Sat c st' a' w' ∧ k st' ∧ ∃ x, a' = a.put o.dst x) a w := by
  unfold stepK at H
  cases hf : st.free o.dst with
  | false => rw [hf] at H; exact H.elim
  | true =>
    rw [hf] at H
    simp only at H
    have s1 := s.see (o.looksAt ops)
    have hgd := guard_ok s1 (ops := ops) (o := o) rfl
    cases hg : guardS ops o (seeS (o.looksAt ops) st.sl) with
    | bad => rw [hg] at H; exact H.elim
    | skip =>
      rw [hg] at H hgd
      simp only at H
      have hw : Region.wanted o (yielded ops a.tmps) = false := hgd
      exact wpOp_of ho (fun h => by rw [hw] at h; cases h) fun _ => ⟨_, s.putVal hf rfl, H, _, rfl⟩
    | run g =>
      rw [hg] at H hgd
      simp only at H
      refine core_ok s hf s1 hgd ho (ce := ceOf kd st.cs) ?_ H Q
      cases kd with
      | none => exact .inr rfl
      | some f => exact .inl rfl

end Go.SL
