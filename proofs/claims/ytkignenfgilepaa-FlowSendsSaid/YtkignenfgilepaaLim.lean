/- How long the rows within arguments are: from what the arguments weigh. -/
import Derived.Test.YtkignenfgilepaaArg
import Derived.SizedLaws
namespace Go.SL
open Go Go.RowKit
set_option linter.unusedVariables false
set_option linter.unusedSimpArgs false
def C0.lim (N : Nat) : C0 → Value → Prop
  | .bytes, .slice _ l _ => l ≤ N
  | _, _ => True
/-- Elements of slices weigh something. -/
def bytC (P : Program) : Nat → TypeId → Bool
  | 0, _ => true
  | d + 1, T => match P.underlying T with
    | some (.slice e) => Nat.ble 1 (P.bytesOf e)
    | some (.struct fs) => fs.toList.all fun f => bytC P d f.type
    | _ => true
section
variable {H : Type} {enc : TypeId × Value → H} {P : Program} {W : World} {sp : Nat → Bool} {hd : Bool} {N : Nat}
theorem fields_lim {g : TypeId → Option (List C0)} {q : TypeId → Bool} {n : Nat} (hg : ∀ T ks cs x, g T = some ks → q T = true → DataW.trod enc P W 0 sp hd n T cs = some x → (∀ k ∈ x.1.weights P T, k ≤ N) → Fa2 (C0.lim N) ks cs) :
    ∀ (fs : List Field) (off : Nat) (ks : List C0) (cs : List Value), flatFs g P.cellsOf off fs = some ks → off + ks.length = cs.length →
      (∀ f ∈ fs, q f.type = true ∧ ∃ x, DataW.trod enc P W 0 sp hd n f.type ((cs.drop f.offset).take (P.cellsOf f.type)) = some x ∧ ∀ k ∈ x.1.weights P f.type, k ≤ N) → Fa2 (C0.lim N) ks (cs.drop off) := by
  intro fs
  induction fs with
  | nil =>
    intro off ks cs h hl _
    simp only [flatFs] at h
    cases h
    rw [List.drop_of_length_le (by simp at hl; omega)]
    exact .nil
  | cons f r ih =>
    intro off ks cs h hl hf
    simp only [flatFs] at h
    split at h
    · rename_i hoff a b _ ha hb
      split at h
      · rename_i hlen _
        cases h
        obtain ⟨hq, x, hx, hxw⟩ := hf f (by simp)
        have h1 := hg _ _ _ _ ha hq hx hxw
        rw [hoff] at h1
        have h2 := ih _ _ cs hb (by simp at hl; omega) (fun f' hf' => hf f' (by simp [hf']))
        have e : cs.drop off = (cs.drop off).take (P.cellsOf f.type) ++ cs.drop (off + P.cellsOf f.type) := by
          rw [← List.drop_drop, List.take_append_drop]
        rw [e]
        exact h1.append h2
      · cases h
    · cases h
theorem lim_one {k : C0} {cs : List Value} (h : Fa2 (C0.holds (HW W)) [k] cs) (hk : k ≠ .bytes) : Fa2 (C0.lim N) [k] cs := by
  obtain ⟨v, rfl, _⟩ := fa1 h
  refine .cons ?_ .nil
  cases k <;> first | trivial | exact absurd rfl hk
theorem flat_lim : ∀ (d : Nat) (T : TypeId) (ks : List C0) (fuel : Nat) (cs : List Value) (x : DataW H × List MemPlace), flatC P d T = some ks → bytC P d T = true → DataW.trod enc P W 0 sp hd fuel T cs = some x → (∀ k ∈ x.1.weights P T, k ≤ N) → Fa2 (C0.lim N) ks cs := by
  intro d
  induction d with
  | zero => intro T ks fuel cs x h; cases h
  | succ d ih =>
    intro T ks fuel cs x h hby hx hw
    have hok := flat_ok (d + 1) T ks fuel cs x h hx
    simp only [flatC] at h
    split at h
    · cases h; exact lim_one hok (by simp)
    · cases h; exact lim_one hok (by simp)
    · cases h; exact lim_one hok (by simp)
    · rename_i e hu
      split at h
      · rename_i hc he _
        cases h
        rcases DataW.trod_slice hu hx with ⟨rfl, _⟩ | ⟨a, len, cap, elems, rest, n, _, rfl, rfl, _, _, _, hel, _⟩
        · exact .cons (Nat.zero_le _) .nil
        · refine .cons ?_ .nil
          have h1 := hw ((elems.length + rest.length) * P.bytesOf e) (by simp [DataW.weights, hu])
          have h2 : 1 ≤ P.bytesOf e := by
            simp only [bytC, hu] at hby
            exact Nat.le_of_ble_eq_true hby
          show len ≤ N
          have h3 : len * 1 ≤ (elems.length + rest.length) * P.bytesOf e := Nat.mul_le_mul (by omega) h2
          omega
      · cases h
    · rename_i fs hu
      split at h
      · rename_i l hl
        split at h
        · rename_i hlen _
          cases h
          obtain ⟨xs, n, rfl, hxe, hcs, hxl, hf⟩ := DataW.trod_struct hu hx
          have := fields_lim (N := N) (g := flatC P d) (q := bytC P d) (n := n) (fun T ks cs x a q b w => ih T ks n cs x a q b w) fs.toList 0 ks cs hl (by rw [hcs, hlen]; simp) (fun f hfm => by
            obtain ⟨i, hi, e⟩ := List.getElem_of_mem hfm
            have hi' : i < fs.size := by simpa using hi
            have := hf i f (by rw [← e]; simp [hi'])
            refine ⟨by
              simp only [bytC, hu] at hby
              exact List.all_eq_true.1 hby f hfm, xs[i]'(by omega), by rw [this, List.getElem?_eq_getElem (by omega)], fun k hk => hw k ?_⟩
            rw [hxe]
            simp only [DataW.weights, hu]
            refine DataW.weights_mem_each (j := i) (t := f.type) (d := (xs[i]'(by omega)).1) ?_ ?_ k hk
            · rw [List.getElem?_map, List.getElem?_eq_getElem hi, e]; rfl
            · rw [List.getElem?_map, List.getElem?_eq_getElem (by omega)]; rfl)
          simpa using this
        · cases h
      · cases h
    · cases h
theorem weightsAll_mem {e : TypeId} : ∀ {l : List (DataW H)} {d : DataW H}, d ∈ l → ∀ k ∈ d.weights P e, k ∈ DataW.weightsAll P e l
  | d0 :: l, d, h, k, hk => by
    simp only [DataW.weightsAll, List.mem_append]
    rcases List.mem_cons.1 h with rfl | h
    · exact .inl hk
    · exact .inr (weightsAll_mem h k hk)
/-- A slice whose elements are flat, with how long the rows within are. -/
theorem slice_lim {t e : TypeId} {v : Value} {x : DataW H} {ps : List MemPlace} (d : Nat) (hby : bytC P d e = true) {ks : List C0} (ht : P.underlying t = some (.slice e)) (hk : flatC P d e = some ks) (hs : P.cellsOf e = ks.length) (h0 : 0 < ks.length)
    (hx : DataW.Trod enc P W 0 sp hd t v x ps) (hw : ∀ k ∈ x.weights P t, k ≤ N) : ∃ (A : Option Addr) (c : Nat) (css : List (List Value)), v.cells.toList = [.slice A css.length c] ∧ css.length ≤ c ∧ (A = none → css = []) ∧ Rd (HW W) A css.flatten ∧ (∀ ys ∈ css, Fa2 (C0.holds (HW W)) ks ys ∧ Fa2 (C0.lim N) ks ys) ∧ css.length ≤ maxLen := by
  obtain ⟨fuel, hf⟩ := hx
  rcases DataW.trod_slice ht hf with ⟨h1, _⟩ | ⟨a, len, cap, elems, rest, n, _, h1, hxe, _, hlc, hcm, hel, hcell, _⟩
  · exact ⟨none, 0, [], h1, Nat.le_refl _, fun _ => rfl, .inl rfl, (fun ys h => by cases h), by simp⟩
  · have hsome : ∀ i, i < len → ∃ cs y, W.cells? 0 (a.add (i * ks.length)) ks.length = some cs ∧ DataW.trod enc P W 0 sp hd n e cs = some y ∧ ∀ k ∈ y.1.weights P e, k ≤ N := by
      intro i hi
      have h := hcell i hi
      rw [List.getElem?_eq_getElem (by omega), hs] at h
      cases hc : W.cells? 0 (a.add (i * ks.length)) ks.length with
      | none => rw [hc] at h; cases h
      | some cs =>
        rw [hc] at h
        refine ⟨cs, _, rfl, h, fun k hk => hw k ?_⟩
        have hx1 : x = .slice (elems.map (·.1)) (rest.map (·.1)) := congrArg Prod.fst hxe
        rw [hx1]
        simp only [DataW.weights, ht]
        refine List.mem_cons_of_mem _ (List.mem_append_left _ ?_)
        exact weightsAll_mem (List.mem_map_of_mem (List.getElem_mem (by omega))) k hk
    let f : Nat → List Value := fun i => match W.cells? 0 (a.add (i * ks.length)) ks.length with | some cs => cs | none => List.replicate ks.length undef
    have flen : ∀ i, (f i).length = ks.length := by
      intro i
      simp only [f]
      split
      · rename_i cs e; exact (cells_some e).1
      · simp
    refine ⟨some a, cap, (List.range len).map f, by rw [h1]; simp, by simpa using hlc, (fun h => by cases h), ?_, ?_, by simp; omega⟩
    · rw [← List.flatMap_def]
      refine rd_hw fun j hj => ?_
      have hlj : ((List.range len).flatMap f).length = len * ks.length := by rw [flat_len f ks.length flen]; simp
      rw [hlj] at hj
      have hi : j / ks.length < len := (Nat.div_lt_iff_lt_mul h0).2 hj
      have hjm : j / ks.length * ks.length + j % ks.length = j := by rw [Nat.mul_comm]; exact Nat.div_add_mod _ _
      have hk2 := Nat.mod_lt j h0
      have e1 := flat_cell f ks.length flen (List.range len) (j / ks.length) (j % ks.length) (by simpa using hi) hk2
      rw [hjm] at e1
      obtain ⟨cs, y, hc, _, _⟩ := hsome _ hi
      obtain ⟨hcl, hce⟩ := cells_some hc
      have e2 := hce _ hk2
      rw [add_add, hjm] at e2
      rw [e2]
      have e3 : f (j / ks.length) = cs := by simp only [f, hc]
      simp only [List.getElem_range, e3] at e1
      rw [← e1, List.getElem?_eq_getElem (by omega)]
    · intro ys hys
      obtain ⟨i, hi, rfl⟩ := List.mem_map.1 hys
      obtain ⟨cs, y, hc, hy, hyw⟩ := hsome i (by simpa using hi)
      simp only [f, hc]
      exact ⟨flat_ok d e ks n cs y hk hy, flat_lim d e ks n cs y hk hby hy hyw⟩
end
end Go.SL
