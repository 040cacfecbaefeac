/- Pure operations, second part: fields, slices, lengths; and all of them together. -/
import Derived.Test.YtkignenfgilepaaPure
namespace Go.SL
open Go Go.RowKit
set_option linter.unusedVariables false
set_option linter.unusedSimpArgs false
variable {P : Program}

def PR.okN (P : Program) (r : PR) (s : Sem Next) : Prop :=
  match r with
  | .no => True
  | .val v => ∀ W, s.run P W = .ok (.value v) W
  | .pre p v => p → ∀ W, s.run P W = .ok (.value v) W
theorem PR.okV.next {r : PR} {s : Sem Value} (h : r.okV P s) : r.okN P (do pure (.value (← s))) := by
  cases r with
  | no => trivial
  | val v => intro W; simp [h W]
  | pre p v => intro hp W; simp [h hp W]

theorem sizeP_run {T : TypeId} (h : sizeP P T ≠ 0) (W : World) : (sizeOf T).run P W = .ok (sizeP P T) W := by
  unfold sizeP at h ⊢
  cases e : P.info? T with
  | none => rw [e] at h; exact absurd rfl h
  | some i => simp [sizeOf, typeInfo, e]
theorem sizeP_some {T : TypeId} {i : TypeInfo} (h : P.info? T = some i) (W : World) : (sizeOf T).run P W = .ok (sizeP P T) W := by
  simp [sizeOf, typeInfo, sizeP, h]
theorem underlying_info {T : TypeId} {d : TypeDesc} (h : P.underlying T = some d) : ∃ i, P.info? T = some i := by
  unfold Program.underlying at h
  cases e : P.info? T with
  | none => simp [e] at h
  | some i => exact ⟨i, rfl⟩
theorem zeroP_run {T : TypeId} {z : Value} (h : zeroP P T = some z) (W : World) : (zeroValue T).run P W = .ok z W := by
  unfold zeroP at h
  cases e : P.info? T with
  | none => rw [e] at h; cases h
  | some i => rw [e] at h; simp only at h; simp [zeroValue, typeInfo, e, h]
theorem zeroP_size {T : TypeId} {z : Value} (h : zeroP P T = some z) (W : World) : (sizeOf T).run P W = .ok (sizeP P T) W := by
  unfold zeroP at h
  cases e : P.info? T with
  | none => rw [e] at h; cases h
  | some i => exact sizeP_some e W
theorem isAggP_run {T : TypeId} {d : TypeDesc} (h : P.underlying T = some d) (W : World) : (isAgg T).run P W = .ok (isAggP P T) W := by
  unfold isAgg isAggP
  rw [h]
  cases d <;> simp [run_underlyingP h]
theorem fieldP_run {T : TypeId} {f : Nat} {fd : Field} (h : fieldP P T f = some fd) : ∃ fs : Array Field, P.underlying T = some (.struct fs) ∧ fs[f]? = some fd := by
  unfold fieldP at h
  split at h
  · exact ⟨_, by assumption, h⟩
  · cases h

theorem toArray_extract (cs : List Value) (off n : Nat) : cs.toArray.extract off (off + n) = ((cs.drop off).take n).toArray := by
  apply Array.ext'
  simp
theorem part_run {T : TypeId} {d : TypeDesc} {cs : List Value} {off : Nat} {v : Value} (hu : P.underlying T = some d) (h : partL P T cs off = some v) (W : World) :
    (part T cs.toArray off).run P W = .ok v W := by
  obtain ⟨i, hi⟩ := underlying_info hu
  unfold part
  unfold partL at h
  simp only [Sem.run_bind, isAggP_run hu, Result.andThen_ok]
  cases e : isAggP P T with
  | true => rw [e] at h; simp only at h; cases h; simp [sizeP_some hi, toArray_extract]
  | false => rw [e] at h; simp only at h; simp [h]

theorem lenR_ok (T ty : TypeId) (x : Value) : (lenR P T x).okV P (Builtin.len_ #[T] ty #[x]) := by
  unfold lenR
  split
  · rename_i h; intro W; simp [Builtin.len_, run_underlyingP h, goInt]
  · rename_i h; intro W; simp [Builtin.len_, run_underlyingP h, goInt]
  · rename_i h; intro W; simp [Builtin.len_, run_underlyingP h, goInt]
  · trivial
theorem capR_ok (T ty : TypeId) (x : Value) : (capR P T x).okV P (Builtin.cap_ #[T] ty #[x]) := by
  unfold capR
  split
  · rename_i h; intro W; simp [Builtin.cap_, run_underlyingP h, goInt]
  · trivial
theorem min2R_ok {x y v : Value} (h : min2R x y = some v) (ats : Array TypeId) (ty : TypeId) (W : World) : (Builtin.min_ ats ty #[x, y]).run P W = .ok v W := by
  unfold min2R at h
  split at h
  · cases h; simp [Builtin.min_, Builtin.min2]
  · cases h
theorem max2R_ok {x y v : Value} (h : max2R x y = some v) (ats : Array TypeId) (ty : TypeId) (W : World) : (Builtin.max_ ats ty #[x, y]).run P W = .ok v W := by
  unfold max2R at h
  split at h
  · cases h; simp [Builtin.max_, Builtin.max2]
  · cases h

theorem bound_run {k : IntKind} {i : Int} {y : Nat} (code : BoundsCode) (h0 : 0 ≤ i) (h1 : i ≤ (y : Int)) (W : World) : (Instr.sliceBound (.int k i) y code).run P W = .ok i.toNat W := by
  simp [Instr.sliceBound, asIntOf, h0, h1]

theorem le_cast_toNat {m : Int} (h : 0 ≤ m) : ((m.toNat : Nat) : Int) = m := Int.toNat_of_nonneg h

theorem size_of_elem {T e : TypeId} (h : P.underlying T = some (.slice e)) (he : ∃ i, P.info? e = some i) (W : World) : (sizeOf e).run P W = .ok (sizeP P e) W :=
  let ⟨_, hi⟩ := he; sizeP_some hi W

theorem sliceR_ok (T : TypeId) (x : Value) (lo hi mx : Option Value) (he : ∀ e, P.underlying T = some (.slice e) → ∃ i, P.info? e = some i) :
    (sliceR P T x lo hi mx).okV P (Instr.sliceAt T x lo hi mx) := by
  unfold sliceR
  split
  · rename_i hu
    split
    · intro W; simp [Instr.sliceAt, Instr.slice, Instr.sliceBounds, run_underlyingP hu]
    · rintro ⟨h0, h1⟩ W; simp [Instr.sliceAt, Instr.slice, Instr.sliceBounds, run_underlyingP hu, bound_run, h0, h1]
    · rintro ⟨h0, h1⟩ W; simp [Instr.sliceAt, Instr.slice, Instr.sliceBounds, run_underlyingP hu, bound_run, h0, h1]
    · rintro ⟨h0, h1, h2⟩ W
      have h3 := Int.le_trans h0 h1
      simp [Instr.sliceAt, Instr.slice, Instr.sliceBounds, run_underlyingP hu, bound_run, h0, h1, h2, h3, le_cast_toNat h3]
    · trivial
  · rename_i hu
    have hs := size_of_elem hu (he _ hu)
    split
    · intro W; simp [Instr.sliceAt, Instr.slice, Instr.sliceBounds, run_underlyingP hu, hs, subA]
    · rintro ⟨h0, h1⟩ W; simp [Instr.sliceAt, Instr.slice, Instr.sliceBounds, run_underlyingP hu, bound_run, h0, h1, hs, subA]
    · rintro ⟨h0, h1⟩ W; simp [Instr.sliceAt, Instr.slice, Instr.sliceBounds, run_underlyingP hu, bound_run, h0, h1, hs, subA]
    · rintro ⟨h0, h1, h2⟩ W
      have h3 := Int.le_trans h0 h1
      simp [Instr.sliceAt, Instr.slice, Instr.sliceBounds, run_underlyingP hu, bound_run, h0, h1, h2, h3, le_cast_toNat h3, hs, subA]
    · trivial
  · rename_i hu
    have hs := size_of_elem hu (he _ hu)
    split
    · rintro ⟨h0, h1, h2⟩ W
      have h3 := Int.le_trans h0 h1
      simp [Instr.sliceAt, Instr.slice, Instr.sliceBounds, run_underlyingP hu, bound_run, h0, h1, h2, h3, le_cast_toNat h3, hs, subA]
    · rintro ⟨h0, h1, h2, h4⟩ W
      have h3 := Int.le_trans h0 h1
      have h5 := Int.le_trans h3 h2
      simp [Instr.sliceAt, Instr.slice, Instr.sliceBounds, run_underlyingP hu, bound_run, h0, h1, h2, h3, h4, h5, le_cast_toNat h3, le_cast_toNat h5, hs, subA]
    · trivial
  · trivial

theorem indexR_ok (T : TypeId) (x i : Value) : (indexR P T x i).okV P (Instr.index T x i) := by
  unfold indexR
  split
  · rename_i s k i hu
    rintro ⟨h0, h1⟩ W
    have hlt : i.toNat < s.size := by omega
    have hlt' : i.toNat < s.data.size := hlt
    have hb : byteAt s i.toNat = (s.data[i.toNat]'hlt').toNat := by unfold byteAt; rw [Array.getElem?_eq_getElem hlt']
    have hg : s[i.toNat]? = some (s.data[i.toNat]'hlt') := by
      rw [getElem?_pos s i.toNat hlt]; rfl
    simp [Instr.index, asIntOf, run_underlyingP hu, h0, hg, hb]
  · trivial

theorem indexAddrR_ok (T : TypeId) (x i : Value) (he : ∀ e, (P.underlying T = some (.slice e) ∨ ∃ n, P.underlying T = some (.array n e)) → ∃ i, P.info? e = some i) :
    (indexAddrR P T x i).okV P (Instr.indexAt T x i) := by
  unfold indexAddrR
  split
  · rename_i e A n c k i hu
    obtain ⟨ii, hi⟩ := he _ (.inl hu)
    rintro ⟨hA, h0, h1⟩ W
    cases A with
    | none => exact absurd rfl hA
    | some a => simp [Instr.indexAt, asIntOf, run_underlyingP hu, h0, h1, sizeP_some hi, oget]
  · rename_i n e a k i hu
    obtain ⟨ii, hi⟩ := he _ (.inr ⟨_, hu⟩)
    rintro ⟨h0, h1⟩ W
    simp [Instr.indexAt, Instr.sureAddr, asIntOf, run_underlyingP hu, h0, h1, sizeP_some hi]
  · trivial

theorem setAt_eq (l : List (Value × Nat)) : True := trivial
theorem foldl_setAt (off : Nat) : ∀ (vs : List Value) (j : Nat) (cs : Array Value),
    (vs.zipIdx j).foldl (fun cs (x : Value × Nat) => cs.setIfInBounds (off + x.2) x.1) cs = (setAt cs.toList (off + j) vs).toArray := by
  intro vs
  induction vs with
  | nil => intro j cs; simp [setAt]
  | cons v r ih =>
    intro j cs
    simp only [List.zipIdx_cons, List.foldl_cons, setAt]
    rw [ih, Array.toList_setIfInBounds]
    congr 1
theorem setAt_length (cs : List Value) (off : Nat) (vs : List Value) : (setAt cs off vs).length = cs.length := by
  induction vs generalizing cs off with
  | nil => rfl
  | cons v r ih => simp [setAt, ih]

theorem fillL_ok {place : Nat → Option (Nat × Nat)} {e : Operand → Option Value} {ρ : Operand → Value} (he : ∀ x v, e x = some v → ρ x = v) :
    ∀ (parts : List (Nat × Operand)) (cells cs : List Value), fillL place e cells parts = some cs →
      Instr.fill place cells.toArray (parts.map fun (i, x) => (i, ρ x)) = some cs.toArray := by
  intro parts
  induction parts with
  | nil => intro cells cs h; simp only [fillL] at h; cases h; rfl
  | cons p r ih =>
    obtain ⟨i, x⟩ := p
    intro cells cs h
    simp only [fillL] at h
    simp only [List.map_cons, Instr.fill]
    cases hp : place i with
    | none => rw [hp] at h; simp at h
    | some os =>
      obtain ⟨off, size⟩ := os
      rw [hp] at h
      cases hx : e x with
      | none => rw [hx] at h; simp at h
      | some v =>
        rw [hx] at h
        simp only at h
        rw [he x v hx]
        split at h
        · rename_i hsz hle _ _
          dsimp only
          rw [if_neg (by simp [hsz]; omega)]
          have := ih _ _ h
          rw [← this]
          congr 1
          have hf := foldl_setAt off v.cells.toList 0 cells.toArray
          simp only [Nat.add_zero] at hf
          rw [← hf, ← Array.foldl_toList]
          simp
        · cases h

theorem allV_ok {e : Operand → Option Value} {ρ : Operand → Value} (he : ∀ x v, e x = some v → ρ x = v) : ∀ (l : List Operand) (vs : List Value), allV e l = some vs → l.map ρ = vs := by
  intro l
  induction l with
  | nil => intro vs h; simp only [allV] at h; cases h; rfl
  | cons x r ih =>
    intro vs h
    simp only [allV] at h
    cases hx : e x with
    | none => rw [hx] at h; cases h
    | some v =>
      rw [hx] at h
      cases hr : allV e r with
      | none => rw [hr] at h; cases h
      | some l => rw [hr] at h; cases h; simp [he x v hx, ih l hr]
theorem optV_ok {e : Operand → Option Value} {ρ : Operand → Value} (he : ∀ x v, e x = some v → ρ x = v) {x : Option Operand} {v : Option Value} (h : optV e x = some v) : x.map ρ = v := by
  cases x with
  | none => simp only [optV] at h; cases h; rfl
  | some x =>
    simp only [optV] at h
    split at h
    · rename_i v' hv; cases h; simp [he x _ hv]
    · cases h

theorem okN_bindV {x : Option Value} {f : Value → PR} {s : Sem Next} (h : ∀ v, x = some v → (f v).okN P s) : (PR.bindV x f).okN P s := by
  cases x with
  | none => trivial
  | some v => exact h v rfl

theorem buildR_ok {T : TypeId} {parts : Array (Nat × Operand)} {e : Operand → Option Value} {ρ : Operand → Value} (he : ∀ x v, e x = some v → ρ x = v)
    (hf : ∀ fs : Array Field, P.underlying T = some (.struct fs) → ∀ f ∈ fs.toList, ∃ i, P.info? f.type = some i) (hel : ∀ n el, P.underlying T = some (.array n el) → ∃ i, P.info? el = some i) :
    (buildR P T parts.toList e).okV P (Instr.build T (parts.map fun (i, x) => (i, ρ x))) := by
  unfold buildR
  split
  · rename_i z fs hz hu
    split
    · rename_i cs hc
      intro W
      have hfill := fillL_ok he _ _ _ hc
      have hmap : (fs.mapM fun f => do pure (f.offset, ← sizeOf f.type) : Sem _).run P W = .ok (fs.map fun f => (f.offset, sizeP P f.type)) W := by
        have : ∀ (l : List Field), (∀ f ∈ l, ∃ i, P.info? f.type = some i) → (l.mapM (fun f => do pure (f.offset, ← sizeOf f.type)) : Sem (List (Nat × Nat))).run P W = .ok (l.map fun f => (f.offset, sizeP P f.type)) W := by
          intro l
          induction l with
          | nil => intro _; rfl
          | cons f r ih =>
            intro h
            obtain ⟨i, hi⟩ := h f (by simp)
            simp only [List.mapM_cons, Sem.run_bind, sizeP_some hi, Result.andThen_ok, Sem.run_pure]
            rw [ih (fun g hg => h g (by simp [hg]))]
            rfl
        have h0 : (fs.toList.toArray.mapM fun f => do pure (f.offset, ← sizeOf f.type) : Sem _) = List.toArray <$> (fs.toList.mapM fun f => do pure (f.offset, ← sizeOf f.type) : Sem _) := List.mapM_toArray
        have h1 : fs.toList.toArray = fs := by simp
        rw [h1] at h0
        rw [h0, Sem.run_map, this fs.toList (hf fs hu), Result.andThen_ok]
        congr 1
        apply Array.ext'
        simp
      have hp : placeF P fs = fun i : Nat => (fs.map fun f => (f.offset, sizeP P f.type))[i]? := by
        funext i
        unfold placeF
        cases h : fs[i]? <;> simp [h]
      rw [hp] at hfill
      have harr : z.cells.toList.toArray = z.cells := by simp
      rw [harr] at hfill
      simp only [Instr.build, Sem.run_bind, zeroP_run hz, run_underlyingP hu, Result.andThen_ok, hmap, Array.toList_map]
      rw [hfill]
      rfl
    · trivial
  · rename_i z n el hz hu
    obtain ⟨ii, hi⟩ := hel _ _ hu
    split
    · rename_i cs hc
      intro W
      have hfill := fillL_ok he _ _ _ hc
      have harr : z.cells.toList.toArray = z.cells := by simp
      rw [harr] at hfill
      simp only [Instr.build, Sem.run_bind, zeroP_run hz, run_underlyingP hu, Result.andThen_ok, sizeP_some hi, Array.toList_map]
      rw [hfill]
      rfl
    · trivial
  · trivial

theorem okElem_slice {T e : TypeId} (h : okElem P T = true) (hu : P.underlying T = some (.slice e)) : ∃ i, P.info? e = some i := by
  unfold okElem at h; rw [hu] at h; exact Option.isSome_iff_exists.1 h
theorem okElem_array {T e : TypeId} {n : Nat} (h : okElem P T = true) (hu : P.underlying T = some (.array n e)) : ∃ i, P.info? e = some i := by
  unfold okElem at h; rw [hu] at h; exact Option.isSome_iff_exists.1 h
theorem okElem_struct {T : TypeId} {fs : Array Field} (h : okElem P T = true) (hu : P.underlying T = some (.struct fs)) : ∀ f ∈ fs.toList, ∃ i, P.info? f.type = some i := by
  unfold okElem at h; rw [hu] at h
  simp only [List.all_eq_true] at h
  exact fun f hf => Option.isSome_iff_exists.1 (h f hf)

theorem okN_ite {b : Bool} {r : PR} {s : Sem Next} (h : b = true → r.okN P s) : (match b with | true => r | false => PR.no).okN P s := by
  cases b with
  | true => exact h rfl
  | false => trivial

/-- What the executor says of a pure operation is so. -/
theorem pev_ok {o : Oper} {e : Operand → Option Value} {ρ : Operand → Value} (he : ∀ x v, e x = some v → ρ x = v) (hc : ∀ v, ρ (.const v) = v) :
    (pev P o.op e).okN P (execOp ρ o) := by
  obtain ⟨dst, op, ty, pos, after, guard⟩ := o
  cases op with
  | build T parts =>
    refine okN_ite fun hb => ?_
    exact (buildR_ok he (fun fs hu => okElem_struct hb hu) (fun n el hu => okElem_array hb hu)).next
  | binOp op T x y yt =>
    refine okN_bindV fun a ha => okN_bindV fun b hb => ?_
    have h1 := he _ _ ha; have h2 := he _ _ hb
    subst h1; subst h2
    exact (binR_ok (fun v hv => by subst hv; exact hc v)).next
  | unOp op T x =>
    refine okN_bindV fun a ha => ?_
    have h1 := he _ _ ha; subst h1
    exact (unR_ok op _).next
  | convert s d x =>
    refine okN_bindV fun a ha => ?_
    have h1 := he _ _ ha; subst h1
    split
    · rename_i h2 h3 h4; intro W; simp [execOp, h4, convert, run_underlyingP h2, run_underlyingP h3, Conv.intToInt]
    · rename_i h2 h3 h4; intro W; simp [execOp, h4, convert, run_underlyingP h2, run_underlyingP h3]
    · trivial
  | makeInterface T x =>
    refine okN_bindV fun a ha => ?_
    have h1 := he _ _ ha; subst h1
    split
    · trivial
    · rename_i d h2 h3
      intro W
      simp only [execOp, Instr.makeInterface, Sem.run_bind, run_underlyingP h3, Result.andThen_ok]
      cases d <;> first | (exact absurd h3 (h2 _)) | rfl
    · trivial
  | makeFunc fn first captured =>
    simp only [pev]
    split
    · rename_i a b h1 h2
      intro W
      have e1 := allV_ok he _ _ h1
      have e2 := allV_ok he _ _ h2
      subst e1; subst e2
      simp only [execOp, Instr.makeFunc, Sem.run_bind, Sem.run_pure, Result.andThen_ok]
      rw [← Array.toList_map, ← Array.toList_map]
    · trivial
  | extract x i =>
    refine okN_bindV fun a ha => ?_
    have h1 := he _ _ ha; subst h1
    split
    · rename_i vs h2
      split
      · rename_i v h3
        intro W
        have h3' : vs[i]? = some v := by simpa using h3
        simp [execOp, h2, Instr.extract, h3']
      · trivial
    · trivial
  | field T x f =>
    refine okN_bindV fun a ha => ?_
    have h1 := he _ _ ha; subst h1
    split
    · rename_i cs fd h2 h3
      obtain ⟨fs, hu, hf⟩ := fieldP_run h3
      split
      · rename_i v h4
        split at h4
        · rename_i d hd
          intro W
          have := part_run hd h4 W
          have ha : cs.toList.toArray = cs := by simp
          rw [ha] at this
          simp [execOp, h2, Instr.field, run_underlyingP hu, hf, asAgg, this]
        · cases h4
      · trivial
    · trivial
  | fieldAddr T x f =>
    refine okN_bindV fun a ha => ?_
    have h1 := he _ _ ha; subst h1
    split
    · rename_i ad fd h2 h3
      obtain ⟨fs, hu, hf⟩ := fieldP_run h3
      split
      · trivial
      · rename_i hne _
        intro W
        simp [execOp, h2, Instr.fieldAt, Instr.sureAddr, run_underlyingP hu, hf, fieldPlace, sizeP_run hne, hne]
    · trivial
  | nilCheck x =>
    refine okN_bindV fun a ha => ?_
    have h1 := he _ _ ha; subst h1
    split
    · rename_i A h2
      intro hA W
      cases A with
      | none => exact absurd rfl hA
      | some a => simp [execOp, h2, oget]
    · trivial
  | slice T x lo hi mx =>
    refine okN_bindV fun a ha => ?_
    have h1 := he _ _ ha; subst h1
    split
    · rename_i l h m hl hh hm
      refine okN_ite fun hb => ?_
      have e1 := optV_ok he hl; have e2 := optV_ok he hh; have e3 := optV_ok he hm
      subst e1; subst e2; subst e3
      exact (sliceR_ok T _ _ _ _ (fun e hu => okElem_slice hb hu)).next
    · trivial
  | index T x i =>
    refine okN_bindV fun a ha => okN_bindV fun b hb => ?_
    have h1 := he _ _ ha; have h2 := he _ _ hb
    subst h1; subst h2
    exact (indexR_ok T _ _).next
  | indexAddr T x i =>
    refine okN_bindV fun a ha => okN_bindV fun b hb => ?_
    have h1 := he _ _ ha; have h2 := he _ _ hb
    subst h1; subst h2
    refine okN_ite fun hb => ?_
    refine (indexAddrR_ok T _ _ (fun e hu => ?_)).next
    rcases hu with hu | ⟨n, hu⟩
    · exact okElem_slice hb hu
    · exact okElem_array hb hu
  | call c =>
    obtain ⟨callee, args, argTypes⟩ := c
    simp only [pev]
    split
    · rename_i x T h2 h3
      obtain rfl : args = #[x] := by apply Array.ext'; simpa using h2
      obtain rfl : argTypes = #[T] := by apply Array.ext'; simpa using h3
      refine okN_bindV fun a ha => ?_
      have h1 := he _ _ ha; subst h1
      have := (lenR_ok (P := P) T ty (ρ x)).next
      cases hr : lenR P T (ρ x) <;> rw [hr] at this <;> first | trivial | (intro W; have t := this W; simpa [execOp, resolve, invoke, builtin] using t) | (intro hp W; have t := this hp W; simpa [execOp, resolve, invoke, builtin] using t)
    · rename_i x T h2 h3
      obtain rfl : args = #[x] := by apply Array.ext'; simpa using h2
      obtain rfl : argTypes = #[T] := by apply Array.ext'; simpa using h3
      refine okN_bindV fun a ha => ?_
      have h1 := he _ _ ha; subst h1
      have := (capR_ok (P := P) T ty (ρ x)).next
      cases hr : capR P T (ρ x) <;> rw [hr] at this <;> first | trivial | (intro W; have t := this W; simpa [execOp, resolve, invoke, builtin] using t) | (intro hp W; have t := this hp W; simpa [execOp, resolve, invoke, builtin] using t)
    · rename_i x y h2
      obtain rfl : args = #[x, y] := by apply Array.ext'; simpa using h2
      refine okN_bindV fun a ha => okN_bindV fun b hb => ?_
      have h1 := he _ _ ha; have h2 := he _ _ hb
      subst h1; subst h2
      split
      · rename_i v hv
        intro W
        have := min2R_ok (P := P) hv argTypes ty W
        simp [execOp, resolve, invoke, builtin, this]
      · trivial
    · rename_i x y h2
      obtain rfl : args = #[x, y] := by apply Array.ext'; simpa using h2
      refine okN_bindV fun a ha => okN_bindV fun b hb => ?_
      have h1 := he _ _ ha; have h2 := he _ _ hb
      subst h1; subst h2
      split
      · rename_i v hv
        intro W
        have := max2R_ok (P := P) hv argTypes ty W
        simp [execOp, resolve, invoke, builtin, this]
      · trivial
    · trivial
  | _ => trivial

end Go.SL
