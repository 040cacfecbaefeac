/- Options, as lists of bytes: no program in sight. -/
import Derived.Test.YtocloghnfnkchaaDoorUse
open Go Go.SL
set_option linter.unusedVariables false
namespace Go.Proofs.SplitVc
theorem wr_id {n : Int} (h0 : -9223372036854775808 ≤ n) (h1 : n ≤ 9223372036854775807) : wr n = n := by
  show IntKind.i64.wrap n = n
  rw [IntKind.wrap_i64]; omega
def optsL : Nat → List UInt8 → Option (List (UInt8 × List UInt8))
  | 0, _ => some []
  | f + 1, l => match l with
    | [] => some []
    | k :: r => if k = 0 then some [] else if k = 1 then (optsL f r).map ((1, []) :: ·) else match r with
      | [] => none
      | n :: r' => if n.toNat < 2 ∨ n.toNat > r'.length + 2 then none else (optsL f (r'.drop (n.toNat - 2))).map ((k, r'.take (n.toNat - 2)) :: ·)
theorem optsL_fuel : ∀ (f f' : Nat) (l : List UInt8), l.length < f → l.length < f' → optsL f l = optsL f' l := by
  intro f
  induction f with
  | zero => intro f' l h; omega
  | succ f ih =>
    intro f' l h h'
    cases f' with
    | zero => omega
    | succ f' =>
      cases l with
      | nil => rfl
      | cons k r =>
        simp only [optsL]
        split
        · rfl
        · split
          · rw [ih f' r (by simp at h; omega) (by simp at h'; omega)]
          · cases r with
            | nil => rfl
            | cons n r' =>
              simp only
              split
              · rfl
              · rw [ih f' _ (by simp at h ⊢; omega) (by simp at h' ⊢; omega)]
/-- What is later. -/
def laterL (l : List (UInt8 × List UInt8)) : List UInt8 := l.flatMap fun o => if 128 ≤ o.1.toNat then o.1 :: UInt8.ofNat (o.2.length + 2) :: o.2 else []
theorem laterL_cons (x : UInt8 × List UInt8) (l : List (UInt8 × List UInt8)) : laterL (x :: l) = (if 128 ≤ x.1.toNat then x.1 :: UInt8.ofNat (x.2.length + 2) :: x.2 else []) ++ laterL l := rfl
def padL (n : Nat) : Nat := (4 - n % 4) % 4
/-- Later's answer. -/
def laterF (s : List UInt8) : List UInt8 × Int :=
  match optsL (s.length + 1) s with
  | some l => (laterL l ++ List.replicate (padL (laterL l).length) 0, 0)
  | none => ([], 4)
theorem optsL_len : ∀ (f : Nat) (l : List UInt8) (o : List (UInt8 × List UInt8)), optsL f l = some o → (laterL o).length ≤ l.length ∧ o.length ≤ l.length ∧ ∀ x ∈ o, x.2.length + 2 ≤ 255 := by
  intro f
  induction f with
  | zero => intro l o h; simp only [optsL] at h; cases h; simp [laterL]
  | succ f ih =>
    intro l o h
    cases l with
    | nil => simp only [optsL] at h; cases h; simp [laterL]
    | cons k r =>
      simp only [optsL] at h
      split at h
      · cases h; simp [laterL]
      · split at h
        · cases e : optsL f r with
          | none => rw [e] at h; cases h
          | some o' =>
            rw [e] at h; cases h
            obtain ⟨h1, h2, h3⟩ := ih _ _ e
            refine ⟨?_, by simp; omega, ?_⟩
            · rw [laterL_cons, List.length_append, List.length_cons]
              have : ¬ (128 ≤ (1 : UInt8).toNat) := by decide
              rw [if_neg this, List.length_nil]; omega
            · intro x hx
              rcases List.mem_cons.1 hx with rfl | hx
              · simp
              · exact h3 x hx
        · cases r with
          | nil => cases h
          | cons n r' =>
            simp only at h
            split at h
            · cases h
            · rename_i hn
              cases e : optsL f (r'.drop (n.toNat - 2)) with
              | none => rw [e] at h; cases h
              | some o' =>
                rw [e] at h; cases h
                obtain ⟨h1, h2, h3⟩ := ih _ _ e
                have hn255 : n.toNat ≤ 255 := by have := n.toNat_lt; omega
                refine ⟨?_, ?_, ?_⟩
                · rw [laterL_cons, List.length_append, List.length_cons, List.length_cons]
                  have h4 : (r'.drop (n.toNat - 2)).length = r'.length - (n.toNat - 2) := by simp
                  have h5 : (r'.take (n.toNat - 2)).length = min (n.toNat - 2) r'.length := by simp
                  split
                  · simp only [List.length_cons, h5]; omega
                  · rw [List.length_nil]; omega
                · simp at h2 ⊢; omega
                · intro x hx
                  rcases List.mem_cons.1 hx with rfl | hx
                  · simp; omega
                  · exact h3 x hx
theorem laterF_size {s : List UInt8} {t : List UInt8} {e : Int} (h : laterF s = (t, e)) (h4 : s.length % 4 = 0) : t.length % 4 = 0 ∧ t.length ≤ s.length := by
  unfold laterF at h
  split at h
  · rename_i l hl
    have := (optsL_len _ _ _ hl).1
    cases h
    unfold padL
    simp
    omega
  · cases h; simp
theorem and3 (n : Nat) (h : n ≤ 1000000) : wr (((BitVec.ofInt 64 (wr (0 - (n : Int))) &&& BitVec.ofInt 64 (3 : Int)).toNat : Nat) : Int) = (padL n : Int) := by
  have e1 : wr (0 - (n : Int)) = -(n : Int) := by rw [wr_id (by omega) (by omega)]; omega
  rw [e1, BitVec.toNat_and]
  have e2 : (BitVec.ofInt 64 (3 : Int)).toNat = 2 ^ 2 - 1 := by decide
  rw [e2, Nat.and_two_pow_sub_one_eq_mod, BitVec.toNat_ofInt, wr_id (by omega) (by omega)]
  unfold padL
  omega
end Go.Proofs.SplitVc
