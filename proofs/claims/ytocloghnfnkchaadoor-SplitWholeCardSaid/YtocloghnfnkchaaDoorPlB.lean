/- How many pieces. -/
import Derived.Test.YtocloghnfnkchaaDoorSpG
open Go Go.SL Go.Proofs
set_option maxRecDepth 100000
set_option linter.unusedVariables false
namespace Go.Proofs.SplitVc
/-- So many pieces of n bytes. -/
def wantF (room full : Nat) : Nat → Nat → Nat
  | 0, _ => 1
  | f + 1, n => if n ≤ room then 1 else wantF room full f (n - full) + 1
theorem wantF_fuel (room full : Nat) (hf : 1 ≤ full) : ∀ (f f' n : Nat), n < f → n < f' → wantF room full f n = wantF room full f' n := by
  intro f
  induction f with
  | zero => intro f' n h; omega
  | succ f ih =>
    intro f' n h h'
    cases f' with
    | zero => omega
    | succ f' =>
      simp only [wantF]
      split
      · rfl
      · rename_i hr
        by_cases h0 : n = 0
        · omega
        · rw [ih f' (n - full) (by omega) (by omega)]
theorem pieces_many : ∀ (f : Nat) (x : Pd) (mtu : Int) (later : ByteArray) (room full : Nat), x.data.length < f → 0 ≤ x.off → x.off + x.data.length ≤ 65000 → x.opts.size = 0 → later.size = 0 →
    mtu - 20 = (room : Int) → full = room / 8 * 8 → 8 ≤ full → ∃ l, piecesF f x mtu later = some l ∧ l.length = wantF room full f x.data.length ∧ ∀ i (h : i + 1 < l.length), l[i].data.length = full := by
  intro f
  induction f with
  | zero => intros; omega
  | succ f ih =>
    intro x mtu later room full hf h0 hoff ho hla hr hfu h8
    have hro : mtu - 20 - (x.opts.size : Int) = (room : Int) := by omega
    have hfull : (room : Int) / 8 * 8 = (full : Int) := by omega
    unfold piecesF wantF
    rw [if_neg (by omega), hro, hfull]
    by_cases hle : x.data.length ≤ room
    · rw [if_pos (by omega), if_pos hle]
      exact ⟨[x], rfl, rfl, fun i h => by simp at h⟩
    · rw [if_neg (by omega), if_neg hle, Int.toNat_natCast]
      obtain ⟨l, hl, hlen, hi⟩ := ih { x with off := x.off + (full : Int), opts := later, data := x.data.drop full } mtu later room full (by simp; omega) (by simp only; omega) (by simp only [List.length_drop]; omega) hla hla hr hfu h8
      refine ⟨{ x with mf := true, data := x.data.take full } :: l, by rw [hl]; rfl, ?_, ?_⟩
      · rw [List.length_cons, hlen]
        simp only [List.length_drop]
      · intro i h
        cases i with
        | zero => simp; omega
        | succ i => simpa using hi i (by simpa using h)
/-- The law's packet. -/
def manyX (n : Nat) : Pd := ⟨0, 0, 0, 0, false, false, 0, btx [97, 98, 99, 100], btx [101, 102, 103, 104], btx [], List.replicate n 0⟩
theorem many_split (n : Nat) (mtu : Int) (room : Nat) (hn : n ≤ 5000) (hm : 68 ≤ mtu) (hr : mtu - 20 = (room : Int)) :
    ∃ l, splitF (manyX n) mtu = (l, 0) ∧ l.length = wantF room (room / 8 * 8) (n + 1) n ∧ ∀ i (h : i + 1 < l.length), l[i].data.length = room / 8 * 8 := by
  have hc : checkD (manyX n) = 0 := by
    have : checkD (manyX n) = if wr (20 + (((List.replicate n (0 : UInt8)).length : Nat) : Int)) > 65535 then 2 else 0 := rfl
    rw [this, List.length_replicate, wr_id (by omega) (by omega), if_neg (by omega)]
  have hl : laterF (manyX n).opts.data.toList = ([], 0) := rfl
  have hlen : (manyX n).data.length = n := List.length_replicate
  have hos : (manyX n).opts.size = 0 := rfl
  unfold splitF
  rw [hc, if_neg (by decide), if_neg (by omega), hl, hlen, hos]
  by_cases hs : 20 + ((0 : Nat) : Int) + (n : Int) ≤ mtu
  · rw [if_pos hs]
    refine ⟨[manyX n], rfl, ?_, fun i h => by simp at h⟩
    unfold wantF
    rw [if_pos (by omega)]; rfl
  · rw [if_neg hs, if_neg (show ¬ ((manyX n).df = true) from (by decide : ¬ (false = true))), if_neg (by decide)]
    obtain ⟨l, h1, h2, h3⟩ := pieces_many (n + 1) (manyX n) mtu (btx []) room (room / 8 * 8) (by rw [hlen]; omega) (show (0 : Int) ≤ 0 by decide) (by rw [hlen]; show (0 : Int) + (n : Int) ≤ 65000; omega) rfl rfl hr rfl (by omega)
    rw [h1]
    rw [hlen] at h2
    exact ⟨l, rfl, h2, h3⟩
theorem awake_split : splitF (manyX 1480) 820 = ([{ manyX 1480 with mf := true, data := (List.replicate 1480 0).take 800 }, { manyX 1480 with off := 800, data := (List.replicate 1480 0).drop 800 }], 0) := by kernel_rfl
theorem awake_later : laterF [7, 3, 4, 148, 4, 0, 0, 0] = ([148, 4, 0, 0], 0) := by kernel_rfl
end Go.Proofs.SplitVc
