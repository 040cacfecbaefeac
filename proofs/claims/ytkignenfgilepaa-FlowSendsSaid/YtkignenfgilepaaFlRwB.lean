/- What the rows with scripts have in common. -/
import Derived.Test.YtkignenfgilepaaFlRwA
import Derived.Test.YtkignenfgilepaaLim
import Derived.Test.YtkignenfgilepaaFlU
set_option maxRecDepth 100000
namespace Go.Proofs.Ytkignenfgilepaa
open Go.ChangeShapes Go.WideShapes Go.RowKit Go Go.SL Go.Proofs.FlowVc
theorem ops_of {h : Hp} : ∀ (css : List (List Value)), (∀ ys ∈ css, Fa2 (C0.holds h) [.int .i64, .int .i64, .int .i64, .bytes] ys ∧ Fa2 (C0.lim reachBytes) [.int .i64, .int .i64, .int .i64, .bytes] ys) → ∃ os : List Opx, os.length = css.length ∧ css.flatten = os.flatMap Opx.cells ∧ ∀ o ∈ os, o.ok h
  | [], _ => ⟨[], rfl, rfl, fun x hx => by cases hx⟩
  | ys :: css, hall => by
    obtain ⟨os, h1, h2, h3⟩ := ops_of css fun y hy => hall y (by simp [hy])
    obtain ⟨hf, hlim⟩ := hall ys (by simp)
    obtain ⟨v0, l0, rfl, ⟨a, rfl, ha⟩, hf1⟩ := fac hf
    obtain ⟨v1, l1, rfl, ⟨b, rfl, hb⟩, hf2⟩ := fac hf1
    obtain ⟨v2, l2, rfl, ⟨n, rfl, hn⟩, hf3⟩ := fac hf2
    obtain ⟨v3, rfl, A, l, c, rfl, hr, _, hc⟩ := fa1 hf3
    obtain ⟨_, _, e0, _, g1⟩ := fac hlim
    cases e0
    obtain ⟨_, _, e0, _, g2⟩ := fac g1
    cases e0
    obtain ⟨_, _, e0, _, g3⟩ := fac g2
    cases e0
    obtain ⟨_, e0, g4⟩ := fa1 g3
    cases e0
    have hlim' : l.length ≤ reachBytes := g4
    refine ⟨⟨a, b, n, A, c, l⟩ :: os, by simp [h1], by simp [h2, Opx.cells], fun x hx => ?_⟩
    rcases List.mem_cons.1 hx with rfl | hx
    · exact ⟨hr, hc, Nat.le_trans hlim' (by decide), wf_i64 ha, wf_i64 hb, wf_i64 hn⟩
    · exact h3 x hx
theorem one_of_cells' {v : Value} {A : Option Addr} {n c : Nat} (h : v.cells.toList = [.slice A n c]) (hs : ∃ a l k, v = .slice a l k) : v = .slice A n c := by
  obtain ⟨a, l, k, rfl⟩ := hs
  simpa [Value.cells] using h
theorem open_script {H : Type} {enc : TypeId × Value → H} {W : World} {sp : Nat → Bool} {hd : Bool} {v : Value} {d : DataW H} {ps : List MemPlace} (hs : ∃ a l k, v = .slice a l k) (h : DataW.Trod enc Try.prog W 0 sp hd 22 v d ps) (hw : ∀ k ∈ d.weights Try.prog 22, k ≤ reachBytes) :
    ∃ (A : Option Addr) (c : Nat) (os : List Opx), v = Vs A os.length c ∧ Rd (HW W) A (os.flatMap Opx.cells) ∧ (∀ o ∈ os, o.ok (HW W)) ∧ os.length ≤ 9223372036854775807 := by
  obtain ⟨A, c, css, hv, _, _, hr, hf, hm⟩ := slice_lim (P := Try.prog) (N := reachBytes) (e := 35) (ks := [.int .i64, .int .i64, .int .i64, .bytes]) 8 (by kernel_rfl) (by kernel_rfl) (by kernel_rfl) (by kernel_rfl) (by decide) h hw
  obtain ⟨os, h1, h2, h3⟩ := ops_of css hf
  rw [h2] at hr
  rw [← h1] at hv hm
  exact ⟨A, c, os, one_of_cells' hv hs, hr, h3, hm⟩
end Go.Proofs.Ytkignenfgilepaa
