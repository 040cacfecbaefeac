/- What the rows of flow's laws have in common. -/
import Derived.Test.YtkignenfgilepaaFlO
import Derived.Test.YtkignenfgilepaaArg
import Derived.Test.YtkignenfgilepaaRows
import Derived.ChangeSame
import Derived.ChangeVars
import Derived.JoinedOf
import Derived.RowKit
import Derived.RowKitTokens
import Derived.Handed
set_option maxRecDepth 100000
namespace Go.Proofs.Ytkignenfgilepaa
open Go.ChangeShapes Go.WideShapes Go.RowKit Go Go.SL Go.Proofs.FlowVc
theorem ownT : ownKnob Try.prog.godebug = none := by kernel_rfl
theorem laidOutT : laidOutB Try.prog = true := by kernel_rfl
/-- Cells of one kind, told apart. -/
theorem ints_of {h : Hp} : ∀ (css : List (List Value)), (∀ ys ∈ css, Fa2 (C0.holds h) [.int .i64] ys) → ∃ ds : List Int, ds.length = css.length ∧ css.flatten = ds.map Vi ∧ ∀ x ∈ ds, -9223372036854775808 ≤ x ∧ x ≤ 9223372036854775807
  | [], _ => ⟨[], rfl, rfl, fun x hx => by cases hx⟩
  | ys :: css, hall => by
    obtain ⟨ds, h1, h2, h3⟩ := ints_of css fun y hy => hall y (by simp [hy])
    obtain ⟨v, rfl, n, rfl, hn⟩ := fa1 (hall ys (by simp))
    refine ⟨n :: ds, by simp [h1], by simp [h2], fun x hx => ?_⟩
    rcases List.mem_cons.1 hx with rfl | hx
    · exact wf_i64 hn
    · exact h3 x hx
end Go.Proofs.Ytkignenfgilepaa
