/- For the prover: what is read, what is owned, calls. -/
import Derived.Test.YtkignenfgilepaaFn
namespace Go.SL
open Go Go.RowKit
set_option linter.unusedVariables false
set_option linter.unusedSimpArgs false

abbrev Vi (n : Int) : Value := .int .i64 n
abbrev Vb (n : Int) : Value := .int .u8 n
abbrev Vs (A : Option Addr) (n c : Nat) : Value := .slice A n c
abbrev Vt (s : ByteArray) : Value := .string s
abbrev Vo (b : Bool) : Value := .bool b
abbrev Vp (A : Option Addr) : Value := .pointer A
abbrev wr (n : Int) : Int := IntKind.i64.wrap n
abbrev oI : OS := .one (.one (.int .i64))
abbrev oU : OS := .one (.one (.int .u8))
abbrev oB : OS := .one (.one .bool)
abbrev oS : OS := .one (.one .slc)
abbrev oT : OS := .one (.one .str)
abbrev oP : OS := .one (.one .ptr)
abbrev cN : Ch := .none
abbrev pU : PUnit := PUnit.unit

/-! ### What stood there before -/
/-- Memory that was there, and that the function does not own. -/
structure Base (c : Ctx) (g : Hp) : Prop where
  inn : In c.w0 g
  disj : Disj c.h0 g
theorem Base.step {c : Ctx} {g : Hp} (b : Base c g) {W : World} {h : Hp} (s : Step c.w0 c.h0 W h) : In W g ∧ Disj h g :=
  let ⟨d, i, _⟩ := s.frame b.disj b.inn
  ⟨i, d⟩
theorem Base.emp (c : Ctx) : Base c Hp.emp := ⟨In.emp _, Disj.emp_right _⟩

/-- Cells that lie at an address. -/
def Rd (g : Hp) (A : Option Addr) (xs : List Value) : Prop :=
  xs = [] ∨ ∃ b off cells T fz, A = some ⟨b, off, none⟩ ∧ g b = some (.cells (cells : List Value).toArray T fz) ∧ off + xs.length ≤ cells.length ∧ (cells.drop off).take xs.length = xs
theorem Rd.nil (g : Hp) (A : Option Addr) : Rd g A [] := .inl rfl
theorem Rd.mono {g g' : Hp} {A : Option Addr} {xs : List Value} (r : Rd g A xs) (h : ∀ b o, g b = some o → g' b = some o) : Rd g' A xs := by
  rcases r with e | ⟨b, off, cells, T, fz, e, hg, hl, hx⟩
  · exact .inl e
  · exact .inr ⟨b, off, cells, T, fz, e, h _ _ hg, hl, hx⟩
theorem sub_left (h g : Hp) : ∀ b o, h b = some o → (h.un g) b = some o := fun b o e => by unfold Hp.un; rw [e]
theorem sub_right {h g : Hp} (d : Disj h g) : ∀ b o, g b = some o → (h.un g) b = some o := fun b o e => by
  unfold Hp.un
  rcases d b with e' | e'
  · rw [e']; exact e
  · rw [e] at e'; cases e'
theorem Rd.left {h g : Hp} {A : Option Addr} {xs : List Value} (r : Rd h A xs) : Rd (h.un g) A xs := r.mono (sub_left h g)
theorem Rd.right {h g : Hp} {A : Option Addr} {xs : List Value} (r : Rd g A xs) (d : Disj h g) : Rd (h.un g) A xs := r.mono (sub_right d)
theorem Addr.add0 (b off n : Nat) : (⟨b, off, none⟩ : Addr).add n = ⟨b, off + n, none⟩ := by
  unfold Addr.add
  split <;> simp_all
theorem Rd.take {g : Hp} {A : Option Addr} {xs : List Value} (r : Rd g A xs) (n : Nat) : Rd g A (xs.take n) := by
  rcases r with e | ⟨b, off, cells, T, fz, e, hg, hl, hx⟩
  · subst e; exact .inl (by simp)
  · refine .inr ⟨b, off, cells, T, fz, e, hg, by simp; omega, ?_⟩
    rw [List.length_take]
    conv => rhs; rw [← hx]
    rw [List.take_take]
theorem Rd.drop {g : Hp} {A : Option Addr} {xs : List Value} (r : Rd g A xs) (n : Nat) : Rd g (A.map (·.add n)) (xs.drop n) := by
  rcases r with e | ⟨b, off, cells, T, fz, e, hg, hl, hx⟩
  · subst e; exact .inl (by simp)
  · by_cases hn : xs.length ≤ n
    · exact .inl (List.drop_eq_nil_of_le hn)
    · refine .inr ⟨b, off + n, cells, T, fz, by rw [e]; simp [Addr.add0], hg, by simp; omega, ?_⟩
      rw [List.length_drop]
      conv => rhs; rw [← hx]
      rw [List.drop_take, List.drop_drop]
theorem Rd.subA {g : Hp} {A : Option Addr} {xs : List Value} {n c size : Nat} (r : Rd g A xs) (hl : xs.length = n * size) (hc : n ≤ c) (l : Nat) (hln : l ≤ n) : Rd g (subA A c l size) (xs.drop (l * size)) := by
  unfold Go.SL.subA
  split
  · rename_i e
    refine .inl (List.drop_eq_nil_of_le ?_)
    rw [hl]
    have : n = l := by omega
    subst this; exact Nat.le_refl _
  · exact r.drop _
theorem Rd.cell {g : Hp} {A : Option Addr} {xs : List Value} (r : Rd g A xs) {W : World} (i : In W g) {j : Nat} {u : Value} (hj : xs[j]? = some u) : W.cell? ((oget A).add j) = some u := by
  rcases r with e | ⟨b, off, cells, T, fz, e, hg, hl, hx⟩
  · subst e; simp at hj
  · subst e
    simp only [oget, Addr.add0, World.cell?, i _ _ hg]
    have hjl := (List.getElem?_eq_some_iff.1 hj).1
    rw [← hx] at hj
    rw [List.getElem?_take_of_lt hjl, List.getElem?_drop] at hj
    simpa using hj

/-- What a load yields. -/
theorem Rd.load {P : Program} {g : Hp} {A : Option Addr} {xs : List Value} (r : Rd g A xs) {W : World} (i : In W g) {T : TypeId} {d : TypeDesc} (hu : P.underlying T = some d) {k : Nat} {v : Value}
    (hne : k < xs.length) (hle : k + sizeP P T ≤ xs.length) (hp : partL P T xs k = some v) : (Instr.loadAt T (.pointer (some ((oget A).add k)))).run P W = .ok v W := by
  rcases r with e | ⟨b, off, cells, T', fz, e, hg, hl, hx⟩
  · subst e; simp at hne
  · subst e
    simp only [oget, Addr.add0, Instr.loadAt, Sem.run_bind]
    have h0 := i _ _ hg
    have hp' : partL P T cells (off + k) = some v := by
      unfold partL at hp ⊢
      rw [← hx] at hp
      split at hp <;> rename_i e
      · simp only [Option.some.injEq] at hp ⊢
        rw [← hp]
        congr 2
        rw [List.drop_take, List.take_take, List.drop_drop]
        congr 1
        omega
      · rw [List.getElem?_take_of_lt hne, List.getElem?_drop] at hp
        exact hp
    have := loadVar_blk (P := P) (W := W) (b := b) (cs := cells) (T' := T') (fr := fz) h0 hu (off := off + k) (v := v) (by omega) hp'
    simpa [Instr.sureAddr] using this

/-- A function that has a text, and is called as such. -/
def callB (P : Program) (f : FuncId) : Bool :=
  match P.funcs[f]? with | some fn => fn.body.isSome && !(fn.name == "runtime.NumGoroutine") | none => false
theorem run_callFunc {P : Program} {f : FuncId} (h : callB P f = true) (args : Array Value) (W : World) : (callFunc f args).run P W = .ok (.enter f args) W := by
  unfold callB at h
  split at h
  · rename_i fn e
    simp only [Bool.and_eq_true, Bool.not_eq_true', beq_eq_false_iff_ne, ne_eq] at h
    obtain ⟨h1, h2⟩ := h
    have : fn.body ≠ none := fun e2 => by rw [e2] at h1; cases h1
    simp [callFunc, e, h2, this]
  · cases h

section
variable {P : Program} {c : Ctx}
theorem ldb_rd {r : OS} {g : Hp} (hb : Base c g) {A : Option Addr} {xs : List Value} (rd : Rd g A xs) {T : TypeId} {d : TypeDesc} (hu : P.underlying T = some d) {k : Nat} (x : r.ty)
    (hne : k < xs.length) (hle : k + sizeP P T ≤ xs.length) (hp : partL P T xs k = some (r.val x)) {kk : r.ty → Prop} (hk : kk x) :
    (hops P c).ldb r (Instr.loadAt T (.pointer (some ((oget A).add k)))) kk :=
  ⟨x, fun W h _ s => rd.load (hb.step s).1 hu hne hle hp, hk⟩
theorem ld_rd {r : OS} {cs : List Ch} {A : Option Addr} {T : TypeId} {d : TypeDesc} (hu : P.underlying T = some d) {k : Nat} (x : r.ty)
    (H : ∀ h, satL cs h → ∃ g xs, (∀ b o, g b = some o → h b = some o) ∧ Rd g A xs ∧ k < xs.length ∧ k + sizeP P T ≤ xs.length ∧ partL P T xs k = some (r.val x)) {kk : r.ty → Prop} (hk : kk x) :
    (hops P c).ld r (Instr.loadAt T (.pointer (some ((oget A).add k)))) cs kk :=
  ⟨x, fun W h hf n => by
    obtain ⟨g, xs, hs, rd, h1, h2, h3⟩ := H h n.sat
    exact rd.load (sub_in n.inn hs) hu h1 h2 h3, hk⟩

/-! ### Calls -/
/-- A call, whatever it owns. -/
theorem call_any {r : OS} {f : FuncId} (hf : callB P f = true) {args : List Value} {cs : List Ch} {fm : List (Nat × CF)} {k : r.ty → TupF fm → Prop} {g : Hp} (hb : Base c g)
    (H : ∀ W h, In W h → satL cs h → In W g → Disj h g → ∃ hu hr, h = hu.un hr ∧ Disj hu hr ∧
      Ok P f args.toArray W hu fun v h' _ => ∃ x y h'', v = r.val x ∧ (∀ b, h'' b ≠ none → h' b ≠ none) ∧ (∀ b o, h'' b = some o → h' b = some o) ∧ (Disj h'' hr → satL (applyF fm y cs) (h''.un hr)) ∧ k x y) :
    (hops P c).call r f args cs fm k := by
  intro W h hf' n
  obtain ⟨ig, dg⟩ := hb.step n.step
  obtain ⟨dg1, dg2⟩ := disj_un_left.1 dg
  obtain ⟨hu, hr, rfl, d, ok⟩ := H W h n.inn n.sat ig dg1
  refine .inr ⟨f, args.toArray, run_callFunc hf _ W, ?_⟩
  have inr : In W hr := ((in_un d).1 n.inn).2
  refine Calls.mono (ok.frame d inr) fun e W' ⟨v, h1, he, i1, s1, h', e1, d', i2, i3, s3, x, y, h'', hv, hdom, hsub, hs, hk⟩ => ?_
  subst hv e1
  have d2 : Disj h'' hr := fun b => by
    rcases d' b with e | e
    · left
      cases e2 : h'' b with
      | none => rfl
      | some o => exact absurd e (hdom b (by rw [e2]; simp))
    · exact .inr e
  refine ⟨x, y, h''.un hr, he, (sub_in i3 hsub).un i2, s1.drop fun b hb => ?_, hs d2, hk⟩
  intro hn
  apply hb
  obtain ⟨n1, n2⟩ := Hp.un_none.1 hn
  rw [Hp.un_none]
  refine ⟨?_, n2⟩
  cases e2 : h'' b with
  | none => rfl
  | some o => exact absurd n1 (hdom b (by rw [e2]; simp))
/-- A call that only reads. -/
theorem call_read {r : OS} {f : FuncId} (hf : callB P f = true) {args : List Value} {cs : List Ch} {k : r.ty → PUnit → Prop} {g : Hp} (hb : Base c g)
    (H : ∀ W h, In W h → satL cs h → In W g → Disj h g → Ok P f args.toArray W Hp.emp fun v _ _ => ∃ x, v = r.val x ∧ k x pU) : (hops P c).call r f args cs [] k :=
  call_any hf hb fun W h i s ig dg => ⟨Hp.emp, h, (Hp.emp_un h).symm, Disj.emp_left _, Ok.mono (H W h i s ig dg) fun v h' W' _ _ ⟨x, e, hk⟩ =>
    ⟨x, pU, Hp.emp, e, fun b hb => absurd rfl hb, (fun b o e => by cases e), (fun _ => by rw [Hp.emp_un]; exact s), hk⟩⟩
/-- A call that makes something. -/
theorem call_make (n : Nat) {r : OS} {f : FuncId} (hf : callB P f = true) {args : List Value} {cs : List Ch} (hn : cs[n]? = some .none) {k : r.ty → TupF [(n, .own)] → Prop} {g : Hp} (hb : Base c g)
    (H : ∀ W h, In W h → satL cs h → In W g → Disj h g → Ok P f args.toArray W Hp.emp fun v h' _ => ∃ x O, v = r.val x ∧ O h' ∧ k x (O, pU)) : (hops P c).call r f args cs [(n, .own)] k :=
  call_any hf hb fun W h i s ig dg => ⟨Hp.emp, h, (Hp.emp_un h).symm, Disj.emp_left _, Ok.mono (H W h i s ig dg) fun v h' W' _ _ ⟨x, O, e, hO, hk⟩ =>
    ⟨x, (O, pU), h', e, fun b hb => hb, fun b o e => e, fun d => by
      obtain ⟨h1, h2, _, rfl, s1, hs⟩ := satL_get s hn
      rw [show h1 = Hp.emp from s1, Hp.emp_un] at d ⊢
      exact hs (.own O) h' hO d, hk⟩⟩
/-- A call that is handed something. -/
theorem call_own (n : Nat) {r : OS} {f : FuncId} (hf : callB P f = true) {args : List Value} {cs : List Ch} {O : Hp → Prop} (hn : cs[n]? = some (.own O)) {k : r.ty → TupF [(n, .own)] → Prop} {g : Hp} (hb : Base c g)
    (H : ∀ W h1 h2, In W h1 → In W h2 → O h1 → In W g → Disj h1 h2 → Disj h1 g → Disj h2 g → Ok P f args.toArray W h1 fun v h' _ => ∃ x O', v = r.val x ∧ O' h' ∧ k x (O', pU)) : (hops P c).call r f args cs [(n, .own)] k :=
  call_any hf hb fun W h i s ig dg => by
    obtain ⟨h1, h2, d, rfl, s1, hs⟩ := satL_get s hn
    obtain ⟨i1, i2⟩ := (in_un d).1 i
    obtain ⟨dg1, dg2⟩ := disj_un_left.1 dg
    exact ⟨h1, h2, rfl, d, Ok.mono (H W h1 h2 i1 i2 s1 ig d dg1 dg2) fun v h' W' _ _ ⟨x, O', e, hO, hk⟩ =>
      ⟨x, (O', pU), h', e, fun b hb => hb, fun b o e => e, fun d => hs (.own O') h' hO d, hk⟩⟩
/-- A call that may write a block. -/
theorem call_blk (n : Nat) {r : OS} {f : FuncId} (hf : callB P f = true) {args : List Value} {cs : List Ch} {l : List Sc} {b : Nat} {cells : List Value} {T : TypeId} (hn : cs[n]? = some (.blk b cells T)) {k : r.ty → TupF [(n, .blk l)] → Prop} {g : Hp} (hb : Base c g)
    (H : ∀ W h1 h2, In W h1 → In W h2 → h1 = Hp.one b (.cells cells.toArray T (0, 0)) → In W g → Disj h1 h2 → Disj h1 g → Disj h2 g →
      Ok P f args.toArray W h1 fun v h' _ => ∃ x y, v = r.val x ∧ h' = Hp.one b (.cells (TupS.vals l y).toArray T (0, 0)) ∧ k x (y, pU)) : (hops P c).call r f args cs [(n, .blk l)] k :=
  call_any hf hb fun W h i s ig dg => by
    obtain ⟨h1, h2, d, rfl, s1, hs⟩ := satL_get s hn
    obtain ⟨i1, i2⟩ := (in_un d).1 i
    obtain ⟨dg1, dg2⟩ := disj_un_left.1 dg
    exact ⟨h1, h2, rfl, d, Ok.mono (H W h1 h2 i1 i2 s1 ig d dg1 dg2) fun v h' W' _ _ ⟨x, y, e, hO, hk⟩ =>
      ⟨x, (y, pU), h', e, fun b hb => hb, fun b o e => e, fun d => by
        have := hs (.blk b (TupS.vals l y) T) h' hO d
        simpa [applyF, hn, CF.ch] using this, hk⟩⟩

/-- A call that looks at a chunk, and hands it back as it was; what it made besides is let go. -/
theorem call_use (n : Nat) {r : OS} {f : FuncId} (hf : callB P f = true) {args : List Value} {cs : List Ch} {x : Ch} (hn : cs[n]? = some x) {k : r.ty → PUnit → Prop} {g : Hp} (hb : Base c g)
    (H : ∀ W h1 h2, In W h1 → In W h2 → x.sat h1 → In W g → Disj h1 h2 → Disj h1 g → Disj h2 g → Ok P f args.toArray W h1 fun v h' _ => ∃ y g', v = r.val y ∧ (∀ b o, g' b = some o → h' b = some o) ∧ x.sat g' ∧ k y pU) : (hops P c).call r f args cs [] k :=
  call_any hf hb fun W h i s ig dg => by
    obtain ⟨h1, h2, d, rfl, s1, hs⟩ := satL_get s hn
    obtain ⟨i1, i2⟩ := (in_un d).1 i
    obtain ⟨dg1, dg2⟩ := disj_un_left.1 dg
    exact ⟨h1, h2, rfl, d, Ok.mono (H W h1 h2 i1 i2 s1 ig d dg1 dg2) fun v h' W' _ _ ⟨y, g', e, hg, hO, hk⟩ =>
      ⟨y, pU, g', e, fun b hb => sub_ne hg b hb, hg, fun d => by
        have := hs x g' hO d
        obtain ⟨hlt, hx⟩ := List.getElem?_eq_some_iff.1 hn
        rw [show cs.set n x = cs from by rw [← hx]; exact List.set_getElem_self hlt] at this
        exact this, hk⟩⟩

/-- A call that looks at a chunk, hands it back as it was, and makes something. -/
theorem call_use_make (n m : Nat) {r : OS} {f : FuncId} (hf : callB P f = true) {args : List Value} {cs : List Ch} {x : Ch} (hn : cs[n]? = some x) (hm : cs[m]? = some .none) {k : r.ty → TupF [(m, .own)] → Prop} {g : Hp} (hb : Base c g)
    (H : ∀ W h1 h2, In W h1 → In W h2 → x.sat h1 → In W g → Disj h1 h2 → Disj h1 g → Disj h2 g →
      Ok P f args.toArray W h1 fun v h' _ => ∃ y g1 g2 O, v = r.val y ∧ Disj g1 g2 ∧ (∀ b o, (g1.un g2) b = some o → h' b = some o) ∧ x.sat g1 ∧ O g2 ∧ k y (O, pU)) : (hops P c).call r f args cs [(m, .own)] k :=
  call_any hf hb fun W h i s ig dg => by
    obtain ⟨h1, h2, d, rfl, s1, hs⟩ := satL_get s hn
    obtain ⟨i1, i2⟩ := (in_un d).1 i
    obtain ⟨dg1, dg2⟩ := disj_un_left.1 dg
    refine ⟨h1, h2, rfl, d, Ok.mono (H W h1 h2 i1 i2 s1 ig d dg1 dg2) fun v h' W' _ _ ⟨y, g1, g2, O, e, d12, hg, hx, hO, hk⟩ =>
      ⟨y, (O, pU), g1.un g2, e, fun b hb => sub_ne hg b hb, hg, fun d' => ?_, hk⟩⟩
    obtain ⟨d1, d2⟩ := disj_un_left.1 d'
    have s2 := hs x g1 hx d1
    obtain ⟨hlt, hx'⟩ := List.getElem?_eq_some_iff.1 hn
    rw [show cs.set n x = cs from by rw [← hx']; exact List.set_getElem_self hlt] at s2
    obtain ⟨k1, k2, dk, ek, sk, hset⟩ := satL_get s2 hm
    rw [show k1 = Hp.emp from sk, Hp.emp_un] at ek
    subst ek
    have := hset (.own O) g2 hO (disj_un_right.2 ⟨d12.symm, d2⟩)
    rw [← Hp.un_assoc, Hp.un_comm d12.symm] at this
    exact this

/-! ### Chunks -/
theorem satL_none {cs : List Ch} {h : Hp} (s : satL cs h) : satL (.none :: cs) h := ⟨Hp.emp, h, Disj.emp_left _, (Hp.emp_un h).symm, rfl, s⟩
theorem satL_one {x : Ch} {h : Hp} (s : x.sat h) : satL [x] h := ⟨h, Hp.emp, Disj.emp_right _, (Hp.un_emp h).symm, s, rfl⟩
theorem satL_sub {cs : List Ch} {h : Hp} {i : Nat} {x : Ch} (s : satL cs h) (hi : cs[i]? = some x) : ∃ h1, x.sat h1 ∧ ∀ b o, h1 b = some o → h b = some o := by
  obtain ⟨h1, h2, d, rfl, s1, _⟩ := satL_get s hi
  exact ⟨h1, s1, sub_left h1 h2⟩
theorem satL_sub2 : ∀ {cs : List Ch} {h : Hp} {i j : Nat} {x y : Ch}, satL cs h → cs[i]? = some x → cs[j]? = some y → i ≠ j →
    ∃ h1 h2, Disj h1 h2 ∧ x.sat h1 ∧ y.sat h2 ∧ ∀ b o, (h1.un h2) b = some o → h b = some o := by
  intro cs
  induction cs with
  | nil => intro h i j x y _ hi; cases hi
  | cons z r ih =>
    intro h i j x y s hi hj hne
    obtain ⟨a, b, d, rfl, sa, sb⟩ := s
    cases i with
    | zero =>
      simp at hi; subst hi
      cases j with
      | zero => exact absurd rfl hne
      | succ j =>
        simp at hj
        obtain ⟨h2, s2, hs⟩ := satL_sub sb hj
        refine ⟨a, h2, fun k => ?_, sa, s2, fun k o e => ?_⟩
        · rcases d k with e | e
          · exact .inl e
          · right
            cases e2 : h2 k with
            | none => rfl
            | some o => rw [hs k o e2] at e; cases e
        · unfold Hp.un at e ⊢
          cases e1 : a k with
          | some o' => rw [e1] at e; exact e
          | none => rw [e1] at e; exact hs k o e
    | succ i =>
      simp at hi
      cases j with
      | zero =>
        simp at hj; subst hj
        obtain ⟨h1, s1, hs⟩ := satL_sub sb hi
        have dd : Disj h1 a := fun k => by
          rcases d k with e | e
          · exact .inr e
          · left
            cases e2 : h1 k with
            | none => rfl
            | some o => rw [hs k o e2] at e; cases e
        refine ⟨h1, a, dd, s1, sa, fun k o e => ?_⟩
        rw [Hp.un_comm dd] at e
        unfold Hp.un at e ⊢
        cases e1 : a k with
        | some o' => rw [e1] at e; exact e
        | none => rw [e1] at e; exact hs k o e
      | succ j =>
        simp at hj
        obtain ⟨h1, h2, d12, s1, s2, hs⟩ := ih sb hi hj (fun e => hne (by rw [e]))
        exact ⟨h1, h2, d12, s1, s2, fun k o e => sub_right d k o (hs k o e)⟩

/-! ### Rows -/
/-- A row that is owned, with room. -/
def Row (e : TypeId) (size : Nat) (v : Option Addr × Nat × Nat) (xs : List Value) (h : Hp) : Prop :=
  xs.length = v.2.1 * size ∧ v.2.1 ≤ v.2.2 ∧ v.2.2 ≤ maxLen ∧
  ((v.2.2 = 0 ∧ h = Hp.emp) ∨ ∃ b rest, v.1 = some ⟨b, 0, none⟩ ∧ rest.length = (v.2.2 - v.2.1) * size ∧ h = Hp.one b (.cells (xs ++ rest).toArray e (0, 0)))
theorem Row.nil (e : TypeId) (size : Nat) (A : Option Addr) : Row e size (A, 0, 0) [] Hp.emp := ⟨by simp, Nat.le_refl _, by simp, .inl ⟨rfl, rfl⟩⟩
theorem Row.rd {e : TypeId} {size : Nat} {v : Option Addr × Nat × Nat} {xs : List Value} {h : Hp} (r : Row e size v xs h) : Rd h v.1 xs := by
  obtain ⟨h1, h2, h4, h3⟩ := r
  rcases h3 with ⟨e1, e2⟩ | ⟨b, rest, e1, e2, e3⟩
  · left
    have : v.2.1 = 0 := by omega
    rw [this] at h1
    exact List.eq_nil_of_length_eq_zero (by simpa using h1)
  · subst e3
    refine .inr ⟨b, 0, xs ++ rest, e, (0, 0), e1, by simp [Hp.one], by simp, by simp⟩
theorem Rd.cells {g : Hp} {A : Option Addr} {xs : List Value} (r : Rd g A xs) {W : World} (i : In W g) : ∀ j u, xs[j]? = some u → W.cell? ((oget A).add j) = some u := fun j u h => r.cell i h
end
end Go.SL
