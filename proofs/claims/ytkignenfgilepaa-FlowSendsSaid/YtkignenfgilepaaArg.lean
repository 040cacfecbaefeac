/- Arguments that read as data: what lies in memory; they read so behind the call, too. -/
import Derived.Test.YtkignenfgilepaaUse
import Derived.Carry
import Derived.ChangeSlices
import Derived.ChangeOld
import Derived.ChangeShapes
namespace Go.SL
open Go Go.RowKit Go.ChangeShapes
set_option linter.unusedVariables false
set_option linter.unusedSimpArgs false

/-- All memory. -/
def HW (W : World) : Hp := fun b => W.heap[b]?
theorem hw_in (W : World) : In W (HW W) := fun b o h => h
theorem add_add (a : Addr) (m n : Nat) : (a.add m).add n = a.add (m + n) := by
  unfold Addr.add
  by_cases hm : m = 0
  · subst hm; simp
  · by_cases hn : n = 0
    · subst hn; simp
    · simp [hm, hn, Nat.add_assoc]
theorem add_cell {W : World} {a : Addr} {c : Array Value} {T : TypeId} {fz : Nat × Nat} (hs : a.spot = none) (h : W.heap[a.block]? = some (.cells c T fz)) (j : Nat) : W.cell? (a.add j) = c[a.off + j]? := by
  obtain ⟨b, off, sp⟩ := a
  simp only at hs
  subst hs
  rw [Addr.add0]
  simp [World.cell?, h]
theorem rd_hw {W : World} {a : Addr} {xs : List Value} (h : ∀ (j : Nat) (hj : j < xs.length), W.cell? (a.add j) = some xs[j]) : Rd (HW W) (some a) xs := by
  cases hx : xs with
  | nil => exact .inl rfl
  | cons x r =>
    rw [← hx]
    have hpos : 0 < xs.length := by rw [hx]; simp
    have h0 := h 0 hpos
    have ha : a.add 0 = a := by simp [Addr.add]
    rw [ha] at h0
    unfold World.cell? at h0
    split at h0
    · rename_i c T fz e
      split at h0
      · cases h0
      · rename_i hs
        have hs' : a.spot = none := by simpa using hs
        have hcell : ∀ (j : Nat) (hj : j < xs.length), c[a.off + j]? = some xs[j] := fun j hj => by rw [← add_cell hs' e j]; exact h j hj
        have hlast := hcell (xs.length - 1) (by omega)
        have hb := (Array.getElem?_eq_some_iff.1 hlast).1
        refine .inr ⟨a.block, a.off, c.toList, T, fz, ?_, ?_, ?_, ?_⟩
        · obtain ⟨b, off, sp⟩ := a
          simp only at hs'
          subst hs'
          rfl
        · show W.heap[a.block]? = _
          rw [e]
        · simp only [Array.length_toList]; omega
        · apply List.ext_getElem?
          intro j
          by_cases hj : j < xs.length
          · rw [List.getElem?_take_of_lt hj, List.getElem?_drop, Array.getElem?_toList, hcell j hj, List.getElem?_eq_getElem hj]
          · rw [List.getElem?_eq_none (by simp; omega), List.getElem?_eq_none (by omega)]
    · cases h0
theorem cells_some {W : World} {a : Addr} {n : Nat} {cs : List Value} (h : W.cells? 0 a n = some cs) : cs.length = n ∧ ∀ j, j < n → W.cell? (a.add j) = cs[j]? := by
  unfold World.cells? at h
  rw [if_pos (Nat.zero_le _)] at h
  have hl := mapM_some_length h
  simp only [List.length_range] at hl
  exact ⟨hl, fun j hj => mapM_some_get h j j (by simp [hj])⟩

/-- The kinds of cells. -/
inductive C0 where
  | int (k : IntKind) | bool | str | bytes
def C0.holds (h : Hp) : C0 → Value → Prop
  | .int k, v => ∃ n, v = .int k n ∧ (Lit.int k n).wf = true
  | .bool, v => ∃ b, v = .bool b
  | .str, v => ∃ s, v = .string s ∧ s.size ≤ maxLen
  | .bytes, v => ∃ A l c, v = .slice A (l : List UInt8).length c ∧ Rd h A (bts l) ∧ (A = none → l = []) ∧ l.length ≤ c
section
variable (P : Program)
def flatFs (g : TypeId → Option (List C0)) (sz : TypeId → Nat) : Nat → List Field → Option (List C0)
  | _, [] => some []
  | off, f :: r => match decEq f.offset off, g f.type, flatFs g sz (off + sz f.type) r with
    | isTrue _, some a, some b => (match decEq a.length (sz f.type) with | isTrue _ => some (a ++ b) | isFalse _ => none)
    | _, _, _ => none
def flatC : Nat → TypeId → Option (List C0)
  | 0, _ => none
  | d + 1, T =>
    match P.underlying T with
    | some (.int k) => some [.int k]
    | some .bool => some [.bool]
    | some .string => some [.str]
    | some (.slice e) => (match P.underlying e, decEq (P.cellsOf e) 1 with | some (.int .u8), isTrue _ => some [.bytes] | _, _ => none)
    | some (.struct fs) => (match flatFs (flatC d) P.cellsOf 0 fs.toList with
      | some l => (match decEq l.length (P.cellsOf T) with | isTrue _ => some l | isFalse _ => none)
      | none => none)
    | _ => none
end
inductive Fa2 {α β : Type} (R : α → β → Prop) : List α → List β → Prop
  | nil : Fa2 R [] []
  | cons {a b r s} : R a b → Fa2 R r s → Fa2 R (a :: r) (b :: s)
theorem Fa2.append {α β : Type} {R : α → β → Prop} {a c : List α} {b d : List β} (h : Fa2 R a b) (k : Fa2 R c d) : Fa2 R (a ++ c) (b ++ d) := by
  induction h with
  | nil => exact k
  | cons h _ ih => exact .cons h ih
theorem Fa2.len {α β : Type} {R : α → β → Prop} {a : List α} {b : List β} (h : Fa2 R a b) : a.length = b.length := by
  induction h with
  | nil => rfl
  | cons _ _ ih => simp [ih]
theorem fa1 {α β : Type} {R : α → β → Prop} {a : α} {l : List β} (h : Fa2 R [a] l) : ∃ b, l = [b] ∧ R a b := by
  cases h with
  | cons h k => cases k; exact ⟨_, rfl, h⟩
theorem fa0 {α β : Type} {R : α → β → Prop} {l : List β} (h : Fa2 R [] l) : l = [] := by cases h; rfl
theorem fac {α β : Type} {R : α → β → Prop} {a : α} {r : List α} {l : List β} (h : Fa2 R (a :: r) l) : ∃ b s, l = b :: s ∧ R a b ∧ Fa2 R r s := by
  cases h with
  | cons h k => exact ⟨_, _, rfl, h, k⟩

section
variable {H : Type} {enc : TypeId × Value → H} {P : Program} {W : World} {sp : Nat → Bool} {hd : Bool}
theorem wf_u8 {n : Int} (h : (Lit.int .u8 n).wf = true) : 0 ≤ n ∧ n < 256 := by
  simp [Lit.wf, IntKind.min, IntKind.max, IntKind.signed, IntKind.bits] at h
  omega
theorem wf_i64 {n : Int} (h : (Lit.int .i64 n).wf = true) : -9223372036854775808 ≤ n ∧ n ≤ 9223372036854775807 := by
  simp [Lit.wf, IntKind.min, IntKind.max, IntKind.signed, IntKind.bits] at h
  omega
theorem wf_u64 {n : Int} (h : (Lit.int .u64 n).wf = true) : 0 ≤ n ∧ n < 18446744073709551616 := by
  simp [Lit.wf, IntKind.min, IntKind.max, IntKind.signed, IntKind.bits] at h
  omega
theorem fields_ok {g : TypeId → Option (List C0)} {n : Nat} (hg : ∀ T ks cs x, g T = some ks → DataW.trod enc P W 0 sp hd n T cs = some x → Fa2 (C0.holds (HW W)) ks cs) :
    ∀ (fs : List Field) (off : Nat) (ks : List C0) (cs : List Value), flatFs g P.cellsOf off fs = some ks → off + ks.length = cs.length →
      (∀ f ∈ fs, ∃ x, DataW.trod enc P W 0 sp hd n f.type ((cs.drop f.offset).take (P.cellsOf f.type)) = some x) → Fa2 (C0.holds (HW W)) ks (cs.drop off) := by
  intro fs
  induction fs with
  | nil =>
    intro off ks cs h hl _
    simp only [flatFs] at h
    cases h
    rw [List.drop_of_length_le (by simp at hl; omega)]
    exact .nil
  | cons f r ih =>
    intro off ks cs h hl hf
    simp only [flatFs] at h
    split at h
    · rename_i hoff a b _ ha hb
      split at h
      · rename_i hlen _
        cases h
        obtain ⟨x, hx⟩ := hf f (by simp)
        have h1 := hg _ _ _ _ ha hx
        rw [hoff] at h1
        have h2 := ih _ _ cs hb (by simp at hl; omega) (fun f' hf' => hf f' (by simp [hf']))
        have e : cs.drop off = (cs.drop off).take (P.cellsOf f.type) ++ cs.drop (off + P.cellsOf f.type) := by
          rw [← List.drop_drop, List.take_append_drop]
        rw [e]
        exact h1.append h2
      · cases h
    · cases h
theorem bytes_ok {t e : TypeId} {fuel : Nat} {cs : List Value} {x : DataW H × List MemPlace} (ht : P.underlying t = some (.slice e)) (he : P.underlying e = some (.int .u8)) (hc : P.cellsOf e = 1)
    (h : DataW.trod enc P W 0 sp hd fuel t cs = some x) : Fa2 (C0.holds (HW W)) [.bytes] cs := by
  rcases open_ints ht he hc h with ⟨rfl, _⟩ | ⟨a, len, cap, zs, rfl, _, hlc, _, hzl, _, hcell, hwf⟩
  · exact .cons ⟨none, [], 0, rfl, .inl rfl, fun _ => rfl, Nat.le_refl _⟩ .nil
  · have hle : len ≤ zs.length := by split at hzl <;> omega
    refine .cons ⟨some a, (zs.take len).map fun n => UInt8.ofNat n.toNat, cap, by simp [Nat.min_eq_left hle], ?_, (fun h => by cases h), by simp; omega⟩ .nil
    refine rd_hw fun j hj => ?_
    have hj' : j < len := by simp [bts] at hj; omega
    have hjz : j < zs.length := by omega
    rw [hcell j hjz]
    have hw := wf_u8 (hwf (zs.getD j 0) (by simp [List.getD, hjz]))
    simp only [List.getD, List.getElem?_eq_getElem hjz, Option.getD_some] at hw ⊢
    congr 1
    simp only [bts, List.getElem_map, List.getElem_take]
    congr 1
    rw [UInt8.toNat_ofNat']
    omega
theorem flat_ok : ∀ (d : Nat) (T : TypeId) (ks : List C0) (fuel : Nat) (cs : List Value) (x : DataW H × List MemPlace), flatC P d T = some ks → DataW.trod enc P W 0 sp hd fuel T cs = some x → Fa2 (C0.holds (HW W)) ks cs := by
  intro d
  induction d with
  | zero => intro T ks fuel cs x h; cases h
  | succ d ih =>
    intro T ks fuel cs x h hx
    simp only [flatC] at h
    split at h
    · rename_i k hu
      cases h
      cases fuel with
      | zero => simp [DataW.trod] at hx
      | succ fuel =>
        unfold DataW.trod at hx
        rw [hu] at hx
        split at hx <;> simp_all
        exact .cons ⟨_, rfl, by obtain ⟨⟨_, hw⟩, _⟩ := hx; assumption⟩ .nil
    · rename_i hu
      cases h
      cases fuel with
      | zero => simp [DataW.trod] at hx
      | succ fuel =>
        unfold DataW.trod at hx
        rw [hu] at hx
        split at hx <;> simp_all
        exact .cons ⟨_, rfl⟩ .nil
    · rename_i hu
      cases h
      cases fuel with
      | zero => simp [DataW.trod] at hx
      | succ fuel =>
        unfold DataW.trod at hx
        rw [hu] at hx
        split at hx <;> simp_all
        exact .cons ⟨_, rfl, hx.1⟩ .nil
    · rename_i e hu
      split at h
      · rename_i hc he _
        cases h
        exact bytes_ok hu he hc hx
      · cases h
    · rename_i fs hu
      split at h
      · rename_i l hl
        split at h
        · rename_i hlen _
          cases h
          obtain ⟨xs, n, rfl, _, hcs, hxl, hf⟩ := DataW.trod_struct hu hx
          have := fields_ok (g := flatC P d) (n := n) (fun T ks cs x a b => ih T ks n cs x a b) fs.toList 0 ks cs hl (by rw [hcs, hlen]; simp) (fun f hfm => by
            obtain ⟨i, hi, e⟩ := List.getElem_of_mem hfm
            have hi' : i < fs.size := by simpa using hi
            have := hf i f (by rw [← e]; simp [hi'])
            exact ⟨xs[i]'(by omega), by rw [this, List.getElem?_eq_getElem (by omega)]⟩)
          simpa using this
        · cases h
      · cases h
    · cases h
/-- A value of a flat type. -/
theorem flat_val {T : TypeId} {v : Value} {x : DataW H} {ps : List MemPlace} (d : Nat) {ks : List C0} (h : flatC P d T = some ks) (hx : DataW.Trod enc P W 0 sp hd T v x ps) : Fa2 (C0.holds (HW W)) ks v.cells.toList := by
  obtain ⟨fuel, hf⟩ := hx
  exact flat_ok d T ks fuel _ _ h hf
/-- A slice whose elements are flat. -/
theorem slice_ok {t e : TypeId} {v : Value} {x : DataW H} {ps : List MemPlace} (d : Nat) {ks : List C0} (ht : P.underlying t = some (.slice e)) (hk : flatC P d e = some ks) (hs : P.cellsOf e = ks.length) (h0 : 0 < ks.length)
    (hx : DataW.Trod enc P W 0 sp hd t v x ps) : ∃ (A : Option Addr) (c : Nat) (css : List (List Value)), v.cells.toList = [.slice A css.length c] ∧ css.length ≤ c ∧ (A = none → css = []) ∧ Rd (HW W) A css.flatten ∧ (∀ ys ∈ css, Fa2 (C0.holds (HW W)) ks ys) ∧ css.length ≤ maxLen := by
  obtain ⟨fuel, hf⟩ := hx
  rcases DataW.trod_slice ht hf with ⟨h1, _⟩ | ⟨a, len, cap, elems, rest, n, _, h1, _, _, hlc, hcm, hel, hcell, _⟩
  · exact ⟨none, 0, [], h1, Nat.le_refl _, fun _ => rfl, .inl rfl, (fun ys h => by cases h), by simp⟩
  · have hsome : ∀ i, i < len → ∃ cs y, W.cells? 0 (a.add (i * ks.length)) ks.length = some cs ∧ DataW.trod enc P W 0 sp hd n e cs = some y := by
      intro i hi
      have h := hcell i hi
      rw [List.getElem?_eq_getElem (by omega), hs] at h
      cases hc : W.cells? 0 (a.add (i * ks.length)) ks.length with
      | none => rw [hc] at h; cases h
      | some cs => rw [hc] at h; exact ⟨cs, _, rfl, h⟩
    let f : Nat → List Value := fun i => match W.cells? 0 (a.add (i * ks.length)) ks.length with | some cs => cs | none => List.replicate ks.length undef
    have flen : ∀ i, (f i).length = ks.length := by
      intro i
      simp only [f]
      split
      · rename_i cs e; exact (cells_some e).1
      · simp
    refine ⟨some a, cap, (List.range len).map f, by rw [h1]; simp, by simpa using hlc, (fun h => by cases h), ?_, ?_, by simp; omega⟩
    · rw [← List.flatMap_def]
      refine rd_hw fun j hj => ?_
      have hlj : ((List.range len).flatMap f).length = len * ks.length := by rw [flat_len f ks.length flen]; simp
      rw [hlj] at hj
      have hi : j / ks.length < len := (Nat.div_lt_iff_lt_mul h0).2 hj
      have hjm : j / ks.length * ks.length + j % ks.length = j := by rw [Nat.mul_comm]; exact Nat.div_add_mod _ _
      have hk2 := Nat.mod_lt j h0
      have e1 := flat_cell f ks.length flen (List.range len) (j / ks.length) (j % ks.length) (by simpa using hi) hk2
      rw [hjm] at e1
      obtain ⟨cs, y, hc, _⟩ := hsome _ hi
      obtain ⟨hcl, hce⟩ := cells_some hc
      have e2 := hce _ hk2
      rw [add_add, hjm] at e2
      rw [e2]
      have e3 : f (j / ks.length) = cs := by simp only [f, hc]
      simp only [List.getElem_range, e3] at e1
      rw [← e1, List.getElem?_eq_getElem (by omega)]
    · intro ys hys
      obtain ⟨i, hi, rfl⟩ := List.mem_map.1 hys
      obtain ⟨cs, y, hc, hy⟩ := hsome i (by simpa using hi)
      simp only [f, hc]
      exact flat_ok d e ks n cs y hk hy
/-- Below the heap's old size nothing has turned: all arguments read as they did. -/
theorem all_below (hl : laidOutB P = true) : ∀ {ts : List TypeId} {vs : List Value} {ds : List (DataW H)} {ps : List MemPlace} {W' : World}, DataW.TrodAll enc P W 0 (fun _ => true) true ts vs ds ps → (∀ t ∈ ts, P.readableRec t = true ∧ t < P.types.size) →
    Below W.heap.size W W' → DataW.TrodAll enc P W' 0 (fun b => decide (b < W.heap.size)) true ts vs ds ps := by
  intro ts
  induction ts with
  | nil =>
    intro vs ds ps W' h _ _
    cases vs <;> cases ds <;> first | exact h | exact h.elim
  | cons t ts ih =>
    intro vs ds ps W' h hr hb
    cases vs with
    | nil => cases ds <;> exact h.elim
    | cons v vs =>
      cases ds with
      | nil => exact h.elim
      | cons d ds =>
        obtain ⟨p, q, h1, h2, rfl⟩ := h
        have hlt := DataW.TrodAll.lt (show DataW.TrodAll enc P W 0 (fun _ => true) true (t :: ts) (v :: vs) (d :: ds) (p ++ q) from ⟨p, q, h1, h2, rfl⟩)
        exact ⟨p, q, Below.trod hl (hr t (by simp)).1 (hr t (by simp)).2 h1 hb (fun x hx => hlt x (by simp [hx])), ih h2 (fun t' ht' => hr t' (by simp [ht'])) hb, rfl⟩
end
end Go.SL
