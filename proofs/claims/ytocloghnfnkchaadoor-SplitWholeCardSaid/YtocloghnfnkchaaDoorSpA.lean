import Derived.Test.YtocloghnfnkchaaDoorVcA
open Go Go.SL Go.Proofs
set_option maxRecDepth 100000
set_option linter.unusedVariables false
namespace Go.Proofs.SplitVc
/-- Within their bounds? -/
def withinL : List Int → Bool
  | l :: m :: r => decide (0 ≤ l) && decide (l ≤ m) && withinL r
  | _ => true
theorem und3 : ∃ d, Tryd.prog.underlying 3 = some d := ⟨.int .i64, by kernel_rfl⟩
theorem wr_id0 {n : Int} (h0 : -9223372036854775808 ≤ n) (h1 : n ≤ 9223372036854775807) : wr n = n := by
  show IntKind.i64.wrap n = n
  rw [IntKind.wrap_i64]; omega
theorem rd_int {g : Hp} {A : Option Addr} {xs : List Int} (rd : Rd g A (xs.map Vi)) {c : Ctx} (hb : Base c g) {k : Nat} {x : Int} (hx : xs[k]? = some x) {kk : Int → Prop} (hk : kk x) :
    (hops Tryd.prog c).ldb oI (Instr.loadAt 3 (Vp (some ((oget A).add k)))) kk := by
  have hlt := (List.getElem?_eq_some_iff.1 hx).1
  have e1 : sizeP Tryd.prog 3 = 1 := by kernel_rfl
  have e2 : ∀ cs off, partL Tryd.prog 3 cs off = cs[off]? := fun cs off => by
    have : isAggP Tryd.prog 3 = false := by kernel_rfl
    unfold partL; rw [this]
  obtain ⟨d, hu⟩ := und3
  exact ldb_rd (r := oI) hb rd hu x (by simpa using hlt) (by rw [e1]; simp; omega) (by rw [e2, List.getElem?_map, hx]; rfl) hk
theorem within_ok {W : World} {g : Hp} (hg : In W g) {A : Option Addr} {n c : Nat} {xs : List Int} (rd : Rd g A (xs.map Vi)) (hl : xs.length = n) (hA : A ≠ none) (hn : n % 2 = 0) (hs : n ≤ 1000) :
    Ok Tryd.prog 21 #[Vs A n c] W Hp.emp fun v _ _ => v = Vo (withinL xs) := by
  have hb : Base ⟨W, Hp.emp⟩ g := ⟨hg, Disj.emp_left _⟩
  refine Ok.mono (execFn_ok (P := Tryd.prog) a21 (fn := Tryd.f21) (by kernel_rfl) (args := [.raw (Vs A n c)]) (cs := []) (vs := [Vs A n c]) rfl (by kernel_rfl) (In.emp W) rfl (Q := fun l _ => l = [Vo (withinL xs)]) ?_) ?_
  · rw [vc21]
    refine ⟨fun x _ => ∃ i, x.1 = ((2 * i : Nat) : Int) ∧ 2 * i ≤ n ∧ withinL (xs.drop (2 * i)) = withinL xs, fun x _ => n - x.1.toNat, ⟨pU, Ent.refl _, 0, rfl, by omega, rfl⟩, ?_⟩
    rintro ⟨x, _⟩ y ⟨i, hx, hi, hw⟩
    simp only at hx
    subst hx
    refine ⟨fun hlt => ?_, fun hge => ?_⟩
    · have hlt' : 2 * i < n := by have := of_decide_eq_true hlt; simp only at this; omega
      have h1 : 2 * i < xs.length := by omega
      have h2 : 2 * i + 1 < xs.length := by omega
      have hd : xs.drop (2 * i) = xs[2 * i] :: xs[2 * i + 1] :: xs.drop (2 * (i + 1)) := by
        rw [List.drop_eq_getElem_cons h1, List.drop_eq_getElem_cons h2]
        rfl
      have hw1 : wr (((2 * i : Nat) : Int) + 1) = ((2 * i + 1 : Nat) : Int) := by rw [wr_id0 (by omega) (by omega)]; omega
      have hw2 : wr (((2 * i : Nat) : Int) + 2) = ((2 * (i + 1) : Nat) : Int) := by rw [wr_id0 (by omega) (by omega)]; omega
      simp only
      refine ⟨⟨hA, by omega, by omega⟩, ?_⟩
      rw [Int.toNat_natCast, Nat.mul_one]
      refine rd_int rd hb (List.getElem?_eq_getElem h1) ⟨fun h => ?_, fun h => ?_⟩
      · rw [← hw, hd]
        have : ¬ (0 ≤ xs[2 * i]) := by have := of_decide_eq_true h; omega
        simp [withinL, this]
      · refine ⟨⟨hA, by omega, by omega⟩, ?_⟩
        refine rd_int rd hb (List.getElem?_eq_getElem h1) ?_
        rw [hw1]
        refine ⟨⟨hA, by omega, by omega⟩, ?_⟩
        rw [Int.toNat_natCast, Nat.mul_one]
        refine rd_int rd hb (List.getElem?_eq_getElem h2) ⟨fun h' => ?_, fun h' => ?_⟩
        · rw [← hw, hd]
          have : ¬ (xs[2 * i] ≤ xs[2 * i + 1]) := by have := of_decide_eq_true h'; omega
          simp [withinL, this]
        · intro x1 hx1
          rw [hw2] at hx1
          refine ⟨pU, Ent.refl _, ⟨i + 1, hx1, by omega, ?_⟩, ?_⟩
          · rw [← hw, hd]
            have a1 : 0 ≤ xs[2 * i] := by have := of_decide_eq_false h; omega
            have a2 : xs[2 * i] ≤ xs[2 * i + 1] := by have := of_decide_eq_false h'; omega
            simp [withinL, a1, a2]
          · subst hx1; simp only [Int.toNat_natCast]; omega
    · have : n ≤ 2 * i := by have := of_decide_eq_false hge; simp only at this; omega
      have h0 : xs.drop (2 * i) = [] := List.drop_eq_nil_of_le (by omega)
      rw [← hw, h0]
      rfl
  · rintro v h' W' _ _ ⟨l, cs', rfl, _, rfl⟩
    rfl
end Go.Proofs.SplitVc
