/- For the prover: ends of functions, chunks told in another way, loads of fields. -/
import Derived.Test.YtkignenfgilepaaOps
import Derived.KernelRfl
import Derived.Laws.IdiomStrings
import Derived.Lib.ConvBytes
import Derived.Laws.Strings
namespace Go.SL
open Go Go.RowKit
set_option linter.unusedVariables false
set_option linter.unusedSimpArgs false
variable {P : Program} {c : Ctx}

abbrev Sub (g h : Hp) : Prop := ∀ b o, g b = some o → h b = some o
theorem Sub.refl (h : Hp) : Sub h h := fun _ _ e => e
theorem Sub.trans {f g h : Hp} (a : Sub f g) (b : Sub g h) : Sub f h := fun x o e => b x o (a x o e)
theorem Sub.emp (h : Hp) : Sub Hp.emp h := fun _ _ e => by cases e
theorem Sub.disj {g h k : Hp} (s : Sub g h) (d : Disj h k) : Disj g k := fun b => by
  rcases d b with e | e
  · left
    cases e2 : g b with
    | none => rfl
    | some o => rw [s b o e2] at e; cases e
  · exact .inr e
theorem Sub.un {f g k : Hp} (a : Sub f k) (b : Sub g k) : Sub (f.un g) k := fun x o e => by
  unfold Hp.un at e
  cases e1 : f x with
  | some o' => rw [e1] at e; exact a x o (by rw [e1]; exact e)
  | none => rw [e1] at e; exact b x o e
theorem Sub.un2 {f g f' g' : Hp} (a : Sub f f') (b : Sub g g') (d : Disj f' g') : Sub (f.un g) (f'.un g') :=
  Sub.un (a.trans (sub_left _ _)) (b.trans (sub_right d))

/-! ### Chunks told in another way -/
theorem Ent.trans {a b d : List Ch} (x : Ent a b) (y : Ent b d) : Ent a d :=
  ⟨fun n bl cells T h => let ⟨c1, T1, h1⟩ := y.1 n bl cells T h; x.1 n bl c1 T1 h1, fun h s =>
    let ⟨g, hg, sg⟩ := x.2 h s
    let ⟨k, hk, sk⟩ := y.2 g sg
    ⟨k, fun b o e => hg b o (hk b o e), sk⟩⟩
theorem ent_same {x : Ch} {r r' : List Ch} (e : Ent r r') : Ent (x :: r) (x :: r') :=
  ⟨fun n b cells T h => by
    cases n with
    | zero => exact ⟨cells, T, h⟩
    | succ n => exact e.1 n b cells T h, fun h s => by
    obtain ⟨h1, h2, d, rfl, s1, s2⟩ := s
    obtain ⟨g, hg, sg⟩ := e.2 h2 s2
    have d' : Disj h1 g := (Sub.disj hg d.symm).symm
    exact ⟨h1.un g, Sub.un2 (Sub.refl _) hg d, h1, g, d', rfl, s1, sg⟩⟩
theorem ent_gone {x : Ch} {r r' : List Ch} (e : Ent r r') : Ent (x :: r) (.none :: r') :=
  ⟨fun n b cells T h => by
    cases n with
    | zero => cases h
    | succ n => exact e.1 n b cells T h, fun h s => by
    obtain ⟨h1, h2, d, rfl, s1, s2⟩ := s
    obtain ⟨g, hg, sg⟩ := e.2 h2 s2
    exact ⟨g, Sub.trans hg (sub_right d), Hp.emp, g, Disj.emp_left _, (Hp.emp_un g).symm, rfl, sg⟩⟩
theorem ent_own {x : Ch} {O : Hp → Prop} {r r' : List Ch} (hx : ∀ h, x.sat h → ∃ g, Sub g h ∧ O g) (e : Ent r r') : Ent (x :: r) (.own O :: r') :=
  ⟨fun n b cells T h => by
    cases n with
    | zero => cases h
    | succ n => exact e.1 n b cells T h, fun h s => by
    obtain ⟨h1, h2, d, rfl, s1, s2⟩ := s
    obtain ⟨g, hg, sg⟩ := e.2 h2 s2
    obtain ⟨g1, hg1, o1⟩ := hx h1 s1
    exact ⟨g1.un g, Sub.un2 hg1 hg d, g1, g, Sub.disj hg1 ((Sub.disj hg d.symm).symm), rfl, o1, sg⟩⟩
theorem ent_ownE {x : Ch} {O : Hp → Prop} {r r' : List Ch} (hx : O Hp.emp) (e : Ent r r') : Ent (x :: r) (.own O :: r') :=
  ent_own (fun h _ => ⟨Hp.emp, Sub.emp _, hx⟩) e
theorem ent_nil : Ent [] [] := Ent.refl _

/-- What is not touched stands beside it. -/
theorem Ok.beside {P : Program} {f : FuncId} {args : Array Value} {W : World} {h k : Hp} {R : Value → Hp → Prop} (H : Ok P f args W h fun r h' _ => R r h') (d : Disj h k) (i : In W k) {Q : Value → Hp → Prop}
    (hq : ∀ r h', Disj h' k → R r h' → Q r (h'.un k)) : Ok P f args W (h.un k) fun r h' _ => Q r h' :=
  Ok.mono (H.frame d i) fun r h1 W' _ _ ⟨h', e, d', _, _, _, hr⟩ => by subst e; exact hq r h' d' hr
/-- A contract of the library's, over memory that was there. -/
theorem Step.ofBelow {W W' : World} (b : Below W.heap.size W W') : Step W Hp.emp W' Hp.emp :=
  ⟨b.os, b.tape, b.output, b.size, fun i hi _ => b.block i hi, fun i h => absurd rfl h⟩
theorem Ok.ofBelow {P : Program} {f : FuncId} {args : Array Value} {W : World} {v : Value} (H : Calls P f args W fun e w' => e = .returned v ∧ Below W.heap.size W w') :
    Ok P f args W Hp.emp fun r h' _ => r = v ∧ h' = Hp.emp :=
  Calls.mono H fun e W' ⟨he, hb⟩ => ⟨v, Hp.emp, he, In.emp _, Step.ofBelow hb, rfl, rfl⟩
/-! ### A function's end -/
/-- What is told of the end. -/
def Fin (R : Value → Hp → Prop) (l : List Value) (cs : List Ch) : Prop := ∀ h', satL cs h' → ∃ g, Sub g h' ∧ R (retV l) g
theorem exec_ok' {f : FuncId} {fn : Func} (an : Ann) (hf : P.funcs[f]? = some fn) {args : List SVal} {cs : List Ch} {vs : List Value} (hd : denL cs args = some vs) (hn : Nat.ble vs.length fn.ntmps = true)
    {W : World} {h : Hp} (hin : In W h) (hs : satL cs h) {R : Value → Hp → Prop} (H : execFn P (hops P ⟨W, h⟩) an fn args cs (Fin R)) :
    Ok P f vs.toArray W h fun v h' _ => R v h' :=
  Calls.mono (execFn_ok an hf hd hn hin hs H) fun e W' ⟨v, h', he, i, s, l, cs', hv, hsat, hq⟩ => by
    obtain ⟨g, hg, hr⟩ := hq h' hsat
    subst hv
    exact ⟨retV l, g, he, sub_in i hg, s.drop (fun b hb => sub_ne hg b hb), hr⟩
variable {R : Value → Hp → Prop} {l : List Value}
/-- Nothing of what was made is told. -/
theorem q_none {cs : List Ch} (h : R (retV l) Hp.emp) : Fin R l cs := fun h' _ => ⟨Hp.emp, Sub.emp _, h⟩
theorem q_own {cs : List Ch} (i : Nat) {O : Hp → Prop} (hi : cs[i]? = some (.own O)) (h : ∀ h, O h → R (retV l) h) : Fin R l cs := fun h' s => by
  obtain ⟨h1, s1, hs⟩ := satL_sub s hi
  exact ⟨h1, hs, h h1 s1⟩
theorem q_blk {cs : List Ch} (i : Nat) {x : Ch} (hi : cs[i]? = some x) (h : ∀ h, x.sat h → R (retV l) h) : Fin R l cs := fun h' s => by
  obtain ⟨h1, s1, hs⟩ := satL_sub s hi
  exact ⟨h1, hs, h h1 s1⟩
theorem q_two {cs : List Ch} (i j : Nat) {x y : Ch} (hi : cs[i]? = some x) (hj : cs[j]? = some y) (hne : i ≠ j) (h : ∀ h1 h2, Disj h1 h2 → x.sat h1 → y.sat h2 → R (retV l) (h1.un h2)) : Fin R l cs := fun h' s => by
  obtain ⟨h1, h2, d, s1, s2, hs⟩ := satL_sub2 s hi hj hne
  exact ⟨h1.un h2, hs, h h1 h2 d s1 s2⟩

theorem q3 {x y z : Ch} (h : ∀ g1 g2 g3, Disj g1 (g2.un g3) → Disj g2 g3 → x.sat g1 → y.sat g2 → z.sat g3 → R (retV l) (g1.un (g2.un g3))) : Fin R l [x, y, z] := by
  rintro h' ⟨g1, r1, d1, rfl, s1, g2, r2, d2, rfl, s2, g3, r3, d3, rfl, s3, e⟩
  rw [show r3 = Hp.emp from e, Hp.un_emp] at d1 d2 ⊢
  exact ⟨_, Sub.refl _, h g1 g2 g3 d1 d2 s1 s2 s3⟩
theorem q4 {x y z w : Ch} (h : ∀ g1 g2 g3 g4, Disj g1 (g2.un (g3.un g4)) → Disj g2 (g3.un g4) → Disj g3 g4 → x.sat g1 → y.sat g2 → z.sat g3 → w.sat g4 → R (retV l) (g1.un (g2.un (g3.un g4)))) : Fin R l [x, y, z, w] := by
  rintro h' ⟨g1, r1, d1, rfl, s1, g2, r2, d2, rfl, s2, g3, r3, d3, rfl, s3, g4, r4, d4, rfl, s4, e⟩
  rw [show r4 = Hp.emp from e, Hp.un_emp] at d1 d2 d3 ⊢
  exact ⟨_, Sub.refl _, h g1 g2 g3 g4 d1 d2 d3 s1 s2 s3 s4⟩

/-! ### Reading -/
/-- All chunks keep what one of them has. -/
theorem rd_chunk {cs : List Ch} (i : Nat) {O : Hp → Prop} (hi : cs[i]? = some (.own O)) {A : Option Addr} {xs : List Value} (h : ∀ h, O h → Rd h A xs) : ∀ h, satL cs h → Rd h A xs := fun h' s => by
  obtain ⟨h1, s1, hs⟩ := satL_sub s hi
  exact (h h1 s1).mono hs
theorem rd_blkc {cs : List Ch} (i : Nat) {b : Nat} {cells : List Value} {T : TypeId} (hi : cs[i]? = some (.blk b cells T)) : ∀ h, satL cs h → Rd h (some ⟨b, 0, none⟩) cells := fun h' s => by
  obtain ⟨h1, s1, hs⟩ := satL_sub s hi
  refine .inr ⟨b, 0, cells, T, (0, 0), rfl, hs _ _ ?_, by simp, by simp⟩
  rw [show h1 = _ from s1]; simp [Hp.one]
theorem Rd.load' {g : Hp} {A : Option Addr} {xs : List Value} (r : Rd g A xs) {W : World} (i : In W g) {T : TypeId} {d : TypeDesc} (hu : P.underlying T = some d) {k f : Nat} {v : Value}
    (hne : k + f < xs.length) (hle : k + f + sizeP P T ≤ xs.length) (hp : partL P T xs (k + f) = some v) : (Instr.loadAt T (.pointer (some ⟨((oget A).add k).block, ((oget A).add k).off + f, none⟩))).run P W = .ok v W := by
  have := r.load i hu hne hle hp
  rcases r with e | ⟨b, off, cells, T', fz, e, hg, hl, hx⟩
  · subst e; simp at hne
  · subst e
    simp only [oget, Addr.add0] at this ⊢
    rw [← Nat.add_assoc] at this
    exact this
theorem ld_at {r : OS} {cs : List Ch} {A : Option Addr} {xs : List Value} (R : ∀ h, satL cs h → Rd h A xs) {T : TypeId} (hu : (P.underlying T).isSome = true) {k : Nat} (x : r.ty)
    (hne : k < xs.length) (hle : k + sizeP P T ≤ xs.length) (hp : partL P T xs k = some (r.val x)) {kk : r.ty → Prop} (hk : kk x) :
    (hops P c).ld r (Instr.loadAt T (.pointer (some ((oget A).add k)))) cs kk :=
  let ⟨_, hu⟩ := Option.isSome_iff_exists.1 hu
  ⟨x, fun W h hf n => (R h n.sat).load n.inn hu hne hle hp, hk⟩
theorem ld_fld {r : OS} {cs : List Ch} {A : Option Addr} {xs : List Value} (R : ∀ h, satL cs h → Rd h A xs) {T : TypeId} (hu : (P.underlying T).isSome = true) {k f : Nat} (x : r.ty)
    (hne : k + f < xs.length) (hle : k + f + sizeP P T ≤ xs.length) (hp : partL P T xs (k + f) = some (r.val x)) {kk : r.ty → Prop} (hk : kk x) :
    (hops P c).ld r (Instr.loadAt T (.pointer (some ⟨((oget A).add k).block, ((oget A).add k).off + f, none⟩))) cs kk :=
  let ⟨_, hu⟩ := Option.isSome_iff_exists.1 hu
  ⟨x, fun W h hf n => (R h n.sat).load' n.inn hu hne hle hp, hk⟩
/-- The same, of memory that was there. -/
theorem ldB_at {r : OS} {cs : List Ch} {g : Hp} (hb : Base c g) {A : Option Addr} {xs : List Value} (R : Rd g A xs) {T : TypeId} (hu : (P.underlying T).isSome = true) {k : Nat} (x : r.ty)
    (hne : k < xs.length) (hle : k + sizeP P T ≤ xs.length) (hp : partL P T xs k = some (r.val x)) {kk : r.ty → Prop} (hk : kk x) :
    (hops P c).ld r (Instr.loadAt T (.pointer (some ((oget A).add k)))) cs kk :=
  let ⟨_, hu⟩ := Option.isSome_iff_exists.1 hu
  ⟨x, fun W h hf n => R.load (hb.step n.step).1 hu hne hle hp, hk⟩
theorem ldB_fld {r : OS} {cs : List Ch} {g : Hp} (hb : Base c g) {A : Option Addr} {xs : List Value} (R : Rd g A xs) {T : TypeId} (hu : (P.underlying T).isSome = true) {k f : Nat} (x : r.ty)
    (hne : k + f < xs.length) (hle : k + f + sizeP P T ≤ xs.length) (hp : partL P T xs (k + f) = some (r.val x)) {kk : r.ty → Prop} (hk : kk x) :
    (hops P c).ld r (Instr.loadAt T (.pointer (some ⟨((oget A).add k).block, ((oget A).add k).off + f, none⟩))) cs kk :=
  let ⟨_, hu⟩ := Option.isSome_iff_exists.1 hu
  ⟨x, fun W h hf n => R.load' (hb.step n.step).1 hu hne hle hp, hk⟩
/-- A type of one cell. -/
def oneP (P : Program) (T : TypeId) : Bool := (P.underlying T).isSome && !isAggP P T && Nat.beq (sizeP P T) 1
theorem one_of {T : TypeId} (h : oneP P T = true) : (P.underlying T).isSome = true ∧ sizeP P T = 1 ∧ ∀ xs k, partL P T xs k = xs[k]? := by
  unfold oneP at h
  simp only [Bool.and_eq_true, Bool.not_eq_true'] at h
  obtain ⟨⟨h1, h2⟩, h3⟩ := h
  exact ⟨h1, Nat.eq_of_beq_eq_true h3, fun xs k => by unfold partL; rw [h2]⟩
section
variable {r : OS} {cs : List Ch} {g : Hp} {A : Option Addr} {xs : List Value} {T : TypeId} {k f : Nat} {kk : r.ty → Prop}
theorem ld_cell (R : ∀ h, satL cs h → Rd h A xs) (h1 : oneP P T = true) (x : r.ty) (hx : xs[k]? = some (r.val x)) (hk : kk x) :
    (hops P c).ld r (Instr.loadAt T (.pointer (some ((oget A).add k)))) cs kk := by
  obtain ⟨hu, hs, hp⟩ := one_of h1
  have hlt := (List.getElem?_eq_some_iff.1 hx).1
  exact ld_at R hu x hlt (by rw [hs]; exact hlt) (by rw [hp]; exact hx) hk
theorem ld_cellf (R : ∀ h, satL cs h → Rd h A xs) (h1 : oneP P T = true) (x : r.ty) (hx : xs[k + f]? = some (r.val x)) (hk : kk x) :
    (hops P c).ld r (Instr.loadAt T (.pointer (some ⟨((oget A).add k).block, ((oget A).add k).off + f, none⟩))) cs kk := by
  obtain ⟨hu, hs, hp⟩ := one_of h1
  have hlt := (List.getElem?_eq_some_iff.1 hx).1
  exact ld_fld R hu x hlt (by rw [hs]; exact hlt) (by rw [hp]; exact hx) hk
theorem ldB_cell (hb : Base c g) (R : Rd g A xs) (h1 : oneP P T = true) (x : r.ty) (hx : xs[k]? = some (r.val x)) (hk : kk x) :
    (hops P c).ld r (Instr.loadAt T (.pointer (some ((oget A).add k)))) cs kk := by
  obtain ⟨hu, hs, hp⟩ := one_of h1
  have hlt := (List.getElem?_eq_some_iff.1 hx).1
  exact ldB_at hb R hu x hlt (by rw [hs]; exact hlt) (by rw [hp]; exact hx) hk
theorem ldB_cellf (hb : Base c g) (R : Rd g A xs) (h1 : oneP P T = true) (x : r.ty) (hx : xs[k + f]? = some (r.val x)) (hk : kk x) :
    (hops P c).ld r (Instr.loadAt T (.pointer (some ⟨((oget A).add k).block, ((oget A).add k).off + f, none⟩))) cs kk := by
  obtain ⟨hu, hs, hp⟩ := one_of h1
  have hlt := (List.getElem?_eq_some_iff.1 hx).1
  exact ldB_fld hb R hu x hlt (by rw [hs]; exact hlt) (by rw [hp]; exact hx) hk
theorem ldb_cell (hb : Base c g) (R : Rd g A xs) (h1 : oneP P T = true) (x : r.ty) (hx : xs[k]? = some (r.val x)) (hk : kk x) :
    (hops P c).ldb r (Instr.loadAt T (.pointer (some ((oget A).add k)))) kk := by
  obtain ⟨hu, hs, hp⟩ := one_of h1
  obtain ⟨d, hu⟩ := Option.isSome_iff_exists.1 hu
  have hlt := (List.getElem?_eq_some_iff.1 hx).1
  exact ldb_rd hb R hu x hlt (by rw [hs]; exact hlt) (by rw [hp]; exact hx) hk
end
theorem subA_zero (A : Option Addr) (c s : Nat) : subA A c 0 s = A := by
  unfold subA
  split
  · rfl
  · cases A with
    | none => rfl
    | some a => simp [Addr.add]
/-- Less of a row. -/
theorem Row.trunc {e : TypeId} {size : Nat} {A : Option Addr} {n cp : Nat} {xs : List Value} {h : Hp} (r : Row e size (A, n, cp) xs h) {m : Nat} (hm : m ≤ n) : Row e size (A, m, cp) (xs.take (m * size)) h := by
  obtain ⟨q1, q2, q3, q4⟩ := r
  simp only at q1 q2 q3 q4
  have hmn : m * size ≤ n * size := Nat.mul_le_mul_right _ hm
  refine ⟨by simp; omega, by simp only; omega, q3, ?_⟩
  rcases q4 with h0 | ⟨b, rest, e1, e2, e3⟩
  · exact .inl h0
  · refine .inr ⟨b, xs.drop (m * size) ++ rest, e1, ?_, by rw [e3, ← List.append_assoc, List.take_append_drop]⟩
    simp only [List.length_append, List.length_drop, q1, e2]
    rw [← Nat.sub_mul, ← Nat.add_mul]
    congr 1; omega
/-- A row of more than nothing has a place. -/
theorem Row.some {e : TypeId} {size : Nat} {A : Option Addr} {n cp : Nat} {xs : List Value} {h : Hp} (r : Row e size (A, n, cp) xs h) (hn : 0 < n) : A ≠ none := by
  intro e; subst e
  obtain ⟨q1, q2, q3, q4⟩ := r
  rcases q4 with ⟨e1, _⟩ | ⟨b, rest, e1, _⟩
  · simp only at q2 e1; omega
  · cases e1
theorem Row.isnil {e : TypeId} {size : Nat} {A : Option Addr} {n cp : Nat} {xs : List Value} {h : Hp} (r : Row e size (A, n, cp) xs h) (hA : A = none) : n = 0 := by
  rcases Nat.eq_zero_or_pos n with h0 | h0
  · exact h0
  · exact absurd hA (r.some h0)
theorem Rd.some {g : Hp} {A : Option Addr} {xs : List Value} (r : Rd g A xs) (hn : 0 < xs.length) : A ≠ none := by
  intro e; subst e
  rcases r with e1 | ⟨b, off, cells, T, fz, e1, _⟩
  · subst e1; simp at hn
  · cases e1

/-! ### More operations -/
/-- A slice's element type: its size, its bytes, its zero. -/
def elemP (P : Program) (t : TypeId) : Option (TypeId × Nat × Nat × Value) :=
  match P.underlying t with
  | some (.slice e) => (match P.info? e with
    | some i => (match i.zero with
      | some z => (match decEq z.cells.size i.size with | isTrue _ => some (e, i.size, i.bytes, z) | isFalse _ => none)
      | none => none)
    | none => none)
  | _ => none
theorem elem_of {t e : TypeId} {s b : Nat} {z : Value} (h : elemP P t = some (e, s, b, z)) :
    P.underlying t = some (.slice e) ∧ ∃ i : TypeInfo, P.info? e = some i ∧ i.zero = some z ∧ z.cells.size = i.size ∧ i.size = s ∧ i.bytes = b := by
  unfold elemP at h
  split at h
  · rename_i e' hu
    split at h
    · rename_i i hi
      split at h
      · rename_i z' hz
        split at h
        · rename_i hd _
          cases h
          exact ⟨hu, i, hi, hz, hd, rfl, rfl⟩
        · cases h
      · cases h
    · cases h
  · cases h
/-- An append onto nothing. -/
theorem v_append0 (n : Nat) {e t tx ty : TypeId} {sz by' : Nat} {z : Value} (he : elemP P t = some (e, sz, by', z))
    {cs : List Ch} (hn : cs[n]? = some .none) {A : Option Addr}
    {X : Value} {m : Nat} {news : List Value} {g : Hp} (hb : Base c g) (hs : ∀ W h, In W h → satL cs h → In W g → Disj h g → Src P sz tx X m news W) (hm : m ≤ maxLen) (hby : m * by' ≤ 140737488355328)
    {k : oS.ty → TupF [(n, .own)] → Prop} (hk : ∀ A' cap', k (A', m, cap') (Row e sz (A', m, cap') news, pU)) :
    (hops P c).v oS (Builtin.append_ #[t, tx] ty #[.slice A 0 0, X]) cs [(n, .own)] k :=
  v_make n hn hb fun W h ih s ig dg => by
    obtain ⟨ht, i, hi, hz, hzs, rfl, rfl⟩ := elem_of he
    obtain ⟨v', W', h', hrun, hin', hst, hrow', hlen⟩ := row_append (P := P) (t := t) (tx := tx) (ty := ty) (v := (A, 0, 0)) (xs := []) ht hi hz hzs (In.emp W) (Row.nil e i.size A) (hs W h ih s ig dg) (by simpa using hm) (by simpa using hby)
    obtain ⟨A', l', cap'⟩ := v'
    simp only [Nat.zero_add] at hlen
    subst hlen
    exact ⟨(A', l', cap'), W', h', Row e i.size (A', l', cap') news, hrun, hin', hst, by simpa using hrow', hk A' cap'⟩
/-- An append onto a row that is owned. -/
theorem v_append1 (n : Nat) {e t tx ty : TypeId} {sz by' : Nat} {z : Value} (he : elemP P t = some (e, sz, by', z))
    {cs : List Ch} {O D : Hp → Prop} (hn : cs[n]? = some (.own O)) {A : Option Addr} {l cap : Nat} {xs : List Value} (hO : ∀ h, O h → Sep (Row e sz (A, l, cap) xs) D h)
    {X : Value} {m : Nat} {news : List Value} {g : Hp} (hb : Base c g) (hs : ∀ W h, In W h → satL cs h → In W g → Disj h g → Src P sz tx X m news W) (hm : l + m ≤ maxLen) (hby : (l + m) * by' ≤ 140737488355328)
    {k : oS.ty → TupF [(n, .own)] → Prop} (hk : ∀ A' cap', k (A', l + m, cap') (Sep (Row e sz (A', l + m, cap') (xs ++ news)) D, pU)) :
    (hops P c).v oS (Builtin.append_ #[t, tx] ty #[.slice A l cap, X]) cs [(n, .own)] k := by
  obtain ⟨ht, i, hi, hz, hzs, rfl, rfl⟩ := elem_of he
  exact v_append n ht hi hz hzs hn hO hb hs hm hby hk
/-- The same, of a row alone. -/
theorem v_append2 (n : Nat) {e t tx ty : TypeId} {sz by' : Nat} {z : Value} (he : elemP P t = some (e, sz, by', z))
    {cs : List Ch} {O : Hp → Prop} (hn : cs[n]? = some (.own O)) {A : Option Addr} {l cap : Nat} {xs : List Value} (hO : ∀ h, O h → Row e sz (A, l, cap) xs h)
    {X : Value} {m : Nat} {news : List Value} {g : Hp} (hb : Base c g) (hs : ∀ W h, In W h → satL cs h → In W g → Disj h g → Src P sz tx X m news W) (hm : l + m ≤ maxLen) (hby : (l + m) * by' ≤ 140737488355328)
    {k : oS.ty → TupF [(n, .own)] → Prop} (hk : ∀ A' cap' (O' : Hp → Prop), (∀ h, O' h → Row e sz (A', l + m, cap') (xs ++ news) h) → k (A', l + m, cap') (O', pU)) :
    (hops P c).v oS (Builtin.append_ #[t, tx] ty #[.slice A l cap, X]) cs [(n, .own)] k :=
  v_append1 n he (D := Emp) hn (fun h o => Sep.ofEmp (hO h o)) hb hs hm hby fun A' cap' => hk A' cap' _ fun h ⟨h1, h2, d, e, r, e2⟩ => by
    rw [show h2 = Hp.emp from e2, Hp.un_emp] at e
    subst e; exact r
/-- A new slice. -/
theorem v_makeS (n : Nat) {e t : TypeId} {sz by' : Nat} {z : Value} (he : elemP P t = some (e, sz, by', z)) {cs : List Ch} (hn : cs[n]? = some .none) {kl kc : IntKind} {l cp : Int} (h0 : 0 ≤ l) (hlc : l ≤ cp)
    (hby : (by' : Int) * cp ≤ 281474976710656) (h63 : cp ≤ 9223372036854775807) {g : Hp} (hb : Base c g)
    {k : oS.ty → TupF [(n, .own)] → Prop} (hk : ∀ b, k (some ⟨b, 0, none⟩, l.toNat, cp.toNat) (Row e sz (some ⟨b, 0, none⟩, l.toNat, cp.toNat) ((madeCells z.cells (cp.toNat * sz)).toList.take (l.toNat * sz)), pU)) :
    (hops P c).v oS (Instr.makeSlice t (.int kl l) (.int kc cp)) cs [(n, .own)] k :=
  v_make n hn hb fun W h ih s ig dg => by
    obtain ⟨ht, i, hi, hz, hzs, rfl, rfl⟩ := elem_of he
    obtain ⟨W', h', hr, hin, hst, hrow⟩ := row_make (P := P) ht hi hz (kl := kl) (kc := kc) h0 hlc hby h63 W
    exact ⟨(some ⟨W.heap.size, 0, none⟩, l.toNat, cp.toNat), W', h', _, hr, hin, hst, hrow, hk _⟩
/-- The source of an append: a slice of memory that was there. -/
theorem src_base {size : Nat} {cs : List Ch} {g : Hp} {A : Option Addr} {news : List Value} (r : Rd g A news) {m cp : Nat} (hl : news.length = m * size) (h1 : ∀ u ∈ news, u.oneCell' = true) {tx e' : TypeId} (hk : P.underlying tx = some (.slice e')) :
    ∀ W h, In W h → satL cs h → In W g → Disj h g → Src P size tx (.slice A m cp) m news W := fun W h _ _ ig _ => Src.rd r ig hl h1 hk
theorem src_chunk {size : Nat} {cs : List Ch} {g : Hp} {A : Option Addr} {news : List Value} (R : ∀ h, satL cs h → Rd h A news) {m cp : Nat} (hl : news.length = m * size) (h1 : ∀ u ∈ news, u.oneCell' = true) {tx e' : TypeId} (hk : P.underlying tx = some (.slice e')) :
    ∀ W h, In W h → satL cs h → In W g → Disj h g → Src P size tx (.slice A m cp) m news W := fun W h i s _ _ => Src.rd (R h s) i hl h1 hk
/-- A call that takes two chunks, and leaves one. -/
theorem call_own2 (n m : Nat) {r : OS} {f : FuncId} (hf : callB P f = true) {args : List Value} {cs : List Ch} {O O' : Hp → Prop} (hn : cs[n]? = some (.own O)) (hm : cs[m]? = some (.own O')) (hne : n ≠ m) {k : r.ty → TupF [(n, .own), (m, .gone)] → Prop} {g : Hp} (hb : Base c g)
    (H : ∀ W h1 h2 h3, In W h1 → In W h2 → In W h3 → O h1 → O' h2 → In W g → Disj h1 h2 → Disj h1 h3 → Disj h2 h3 → Disj h1 g → Disj h2 g → Disj h3 g → Ok P f args.toArray W (h1.un h2) fun v h' _ => ∃ x O', v = r.val x ∧ O' h' ∧ k x (O', pU, pU)) :
    (hops P c).call r f args cs [(n, .own), (m, .gone)] k :=
  call_any hf hb fun W h i s ig dg => by
    obtain ⟨h1, h2, d, rfl, s1, hs⟩ := satL_get s hn
    have hm' : (cs.set n .none)[m]? = some (.own O') := by rw [List.getElem?_set_ne hne]; exact hm
    have s2' := hs .none Hp.emp rfl (Disj.emp_left _)
    rw [Hp.emp_un] at s2'
    obtain ⟨k1, k2, dk, rfl, sk1, hk2⟩ := satL_get s2' hm'
    obtain ⟨i1, i2⟩ := (in_un d).1 i
    obtain ⟨j1, j2⟩ := (in_un dk).1 i2
    obtain ⟨dg1, dg2⟩ := disj_un_left.1 dg
    obtain ⟨eg1, eg2⟩ := disj_un_left.1 dg2
    obtain ⟨e1, e2⟩ := disj_un_right.1 d
    refine ⟨h1.un k1, k2, (Hp.un_assoc _ _ _).symm, disj_un_left.2 ⟨e2, dk⟩, Ok.mono (H W h1 k1 k2 i1 j1 j2 s1 sk1 ig e1 e2 dk dg1 eg1 eg2) fun v h' W' _ _ ⟨x, O2, e, hO, hk⟩ =>
      ⟨x, (O2, pU, pU), h', e, fun b hb => hb, fun b o e => e, fun dd => ?_, hk⟩⟩
    have t1 := hk2 .none Hp.emp rfl (Disj.emp_left _)
    rw [Hp.emp_un] at t1
    have hn' : ((cs.set n .none).set m .none)[n]? = some .none := by
      rw [List.getElem?_set_ne (Ne.symm hne), List.getElem?_set_self (List.getElem?_eq_some_iff.1 hn).1]
    obtain ⟨q1, q2, dq, eq, sq, hq⟩ := satL_get t1 hn'
    rw [show q1 = Hp.emp from sq, Hp.emp_un] at eq
    subst eq
    have := hq (.own O2) h' hO dd
    have e3 : (((cs.set n .none).set m .none).set n (.own O2)) = (cs.set n (.own O2)).set m .none := by
      rw [List.set_comm _ _ hne, List.set_set, List.set_comm _ _ (Ne.symm hne)]
    rw [e3] at this
    exact this
/-! ### Lists of equal parts -/
theorem flat_len {α β : Type} (f : α → List β) (n : Nat) (hf : ∀ x, (f x).length = n) (l : List α) : (l.flatMap f).length = l.length * n := by
  induction l with
  | nil => simp
  | cons x r ih => rw [List.flatMap_cons, List.length_append, hf, ih, List.length_cons, Nat.add_mul]; omega
theorem flat_drop {α β : Type} (f : α → List β) (n : Nat) (hf : ∀ x, (f x).length = n) (l : List α) (i : Nat) : (l.flatMap f).drop (i * n) = (l.drop i).flatMap f := by
  induction i generalizing l with
  | zero => simp
  | succ i ih =>
    cases l with
    | nil => simp
    | cons x r =>
      rw [List.flatMap_cons, List.drop_succ_cons, ← ih r, List.drop_append, hf, Nat.add_mul, Nat.one_mul]
      rw [List.drop_of_length_le (by rw [hf]; omega), Nat.add_sub_cancel]
      rfl
theorem flat_get {α β : Type} (f : α → List β) (n : Nat) (hf : ∀ x, (f x).length = n) (l : List α) (i : Nat) (h : i < l.length) : ((l.flatMap f).drop (i * n)).take n = f l[i] := by
  rw [flat_drop f n hf, List.drop_eq_getElem_cons h, List.flatMap_cons, List.take_append, hf, Nat.sub_self, List.take_zero, List.append_nil, List.take_of_length_le (by rw [hf]; exact Nat.le_refl _)]
theorem flat_cell {α β : Type} (f : α → List β) (n : Nat) (hf : ∀ x, (f x).length = n) (l : List α) (i k : Nat) (h : i < l.length) (hk : k < n) : (l.flatMap f)[i * n + k]? = (f l[i])[k]? := by
  rw [← flat_get f n hf l i h, List.getElem?_take_of_lt hk, List.getElem?_drop]

/-! ### Bytes -/
def bts (l : List UInt8) : List Value := l.map fun b => Vb (b.toNat : Int)
theorem bts_len (l : List UInt8) : (bts l).length = l.length := by simp [bts]
theorem bts_one (l : List UInt8) : ∀ u ∈ bts l, u.oneCell' = true := by
  intro u hu
  obtain ⟨b, _, rfl⟩ := List.mem_map.1 hu
  rfl
theorem bts_append (l m : List UInt8) : bts (l ++ m) = bts l ++ bts m := by simp [bts]
theorem bts_take (l : List UInt8) (n : Nat) : (bts l).take n = bts (l.take n) := by simp [bts, List.map_take]
theorem bts_drop (l : List UInt8) (n : Nat) : (bts l).drop n = bts (l.drop n) := by simp [bts, List.map_drop]
theorem bts_get (l : List UInt8) (i : Nat) (h : i < l.length) : (bts l)[i]? = some (Vb (l[i].toNat : Int)) := by simp [bts, h]
/-- Bytes as a text. -/
def btx (l : List UInt8) : ByteArray := ⟨l.toArray⟩
theorem btx_size (l : List UInt8) : (btx l).size = l.length := by simp [btx, ByteArray.size]
theorem btx_data (s : ByteArray) : btx s.data.toList = s := by cases s; simp [btx]
theorem btx_extract (l : List UInt8) (a b : Nat) : (btx l).extract a b = btx ((l.take b).drop a) := by
  apply ByteArray.ext
  rw [ByteArray.data_extract]
  simp [btx, List.extract_eq_take_drop, List.drop_take]
theorem btx_rest (l : List UInt8) (a : Nat) : (btx l).extract a (btx l).size = btx (l.drop a) := by
  rw [btx_extract, btx_size, List.take_length]
theorem byteAt_btx (l : List UInt8) (i : Nat) (h : i < l.length) : byteAt (btx l) i = (l[i].toNat : Int) := by
  simp [byteAt, btx, h]
theorem btx_toList (l : List UInt8) : (btx l).toList = l := by simp [btx, ByteArray.toList_eq]
theorem btx_app (l m : List UInt8) : btx l ++ btx m = btx (l ++ m) := by
  apply ByteArray.ext; simp [btx]
theorem btx_inj {l m : List UInt8} (h : btx l = btx m) : l = m := by
  have := congrArg (fun s : ByteArray => s.data.toList) h
  simpa [btx] using this
theorem made_bts (n : Nat) : (madeCells (Vb 0).cells (n * 1)).toList.take (n * 1) = bts (List.replicate n 0) := by
  have h : madeCells (Vb 0).cells (n * 1) = (Array.replicate n (Vb 0)) := by
    rw [Nat.mul_one]
    apply Array.ext
    · simp [madeCells]
    · intro i h1 h2
      have e : (Vb 0).cells = #[Vb 0] := rfl
      simp [madeCells, e, Nat.mod_one]
  rw [h]
  simp [bts]
theorem run_str {g : Hp} {A : Option Addr} {l : List UInt8} (r : Rd g A (bts l)) {W : World} (i : In W g) {src dst e : TypeId} (hs : P.underlying src = some (.slice e)) (he : P.underlying e = some (.int .u8)) (hd : P.underlying dst = some .string) (cp : Nat) :
    (convert src dst (.slice A l.length cp)).run P W = .ok (.string (btx l)) W := by
  cases A with
  | none =>
    rcases r with e' | ⟨b, off, cells, T, fz, e', _⟩
    · have : l = [] := List.eq_nil_of_length_eq_zero (by rw [← bts_len, e']; rfl)
      subst this
      show (convert src dst (.slice none 0 cp)).run P W = _
      rw [run_convert_bytes_string W src dst e none 0 cp hs he hd]
      simp [Conv.bytesToString]
      rfl
    · cases e'
  | some a =>
    refine run_convert_bytes_back W src dst e a cp l hs he hd fun j hj => ?_
    exact r.cell i (bts_get l j hj)
theorem ld_str {cs : List Ch} {A : Option Addr} {l : List UInt8} (R : ∀ h, satL cs h → Rd h A (bts l)) {src dst e : TypeId} (hs : P.underlying src = some (.slice e)) (he : P.underlying e = some (.int .u8)) (hd : P.underlying dst = some .string) {n cp : Nat} (hn : n = l.length)
    {kk : oT.ty → Prop} (hk : kk (btx l)) : (hops P c).ld oT (convert src dst (.slice A n cp)) cs kk := by
  subst hn
  exact ⟨btx l, fun W h hf n => run_str (R h n.sat) n.inn hs he hd cp, hk⟩
theorem v_strB {cs : List Ch} {g : Hp} (hb : Base c g) {A : Option Addr} {l : List UInt8} (R : Rd g A (bts l)) {src dst e : TypeId} (hs : P.underlying src = some (.slice e)) (he : P.underlying e = some (.int .u8)) (hd : P.underlying dst = some .string) {n cp : Nat} (hn : n = l.length)
    {kk : oT.ty → PUnit → Prop} (hk : kk (btx l) pU) : (hops P c).v oT (convert src dst (.slice A n cp)) cs [] kk := by
  subst hn
  exact v_read hb fun W h i s ig dg => ⟨btx l, run_str R ig hs he hd cp, hk⟩
theorem v_strC {cs : List Ch} {A : Option Addr} {l : List UInt8} (R : ∀ h, satL cs h → Rd h A (bts l)) {src dst e : TypeId} (hs : P.underlying src = some (.slice e)) (he : P.underlying e = some (.int .u8)) (hd : P.underlying dst = some .string) {n cp : Nat} (hn : n = l.length)
    {kk : oT.ty → PUnit → Prop} (hk : kk (btx l) pU) : (hops P c).v oT (convert src dst (.slice A n cp)) cs [] kk := by
  subst hn
  exact v_read (Base.emp c) fun W h i s ig dg => ⟨btx l, run_str (R h s) i hs he hd cp, hk⟩
theorem byteCells_bts (s : ByteArray) : byteCells s = bts s.data.toList := rfl
theorem src_str {cs : List Ch} {g : Hp} (s : ByteArray) {tx : TypeId} (hk : P.underlying tx = some .string) : ∀ W h, In W h → satL cs h → In W g → Disj h g → Src P 1 tx (.string s) s.size (bts s.data.toList) W :=
  fun W h _ _ _ _ => Src.ofString W hk s
end Go.SL
