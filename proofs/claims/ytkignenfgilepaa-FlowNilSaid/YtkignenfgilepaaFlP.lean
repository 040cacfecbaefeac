/- FlowNil's row. -/
import Derived.Test.YtkignenfgilepaaFlO
import Derived.Test.YtkignenfgilepaaArg
import Derived.Test.YtkignenfgilepaaRows
import Derived.ChangeSame
import Derived.ChangeVars
import Derived.JoinedOf
import Derived.RowKit
import Derived.RowKitTokens
import Derived.Handed
set_option maxRecDepth 100000
namespace Go.Proofs.Ytkignenfgilepaa
open Go.ChangeShapes Go.WideShapes Go.RowKit Go Go.SL Go.Proofs.FlowVc
theorem ownT : ownKnob Try.prog.godebug = none := by kernel_rfl
theorem laidOutT : laidOutB Try.prog = true := by kernel_rfl
theorem flowNil_lifted (os : Os) (started : os.Started) (H : Type) (enc : TypeId × Value → H) :
    ReturnsInHanded {} Try.checked os 7 .any (Rows.flowNilSpec.pre6 enc Try.prog Try.f7 Rows.flowNilRow.domain false) (Rows.flowNilSpec.post enc Try.prog Try.f7 false true false false) := by
  refine returnsInHanded_of_change (C := Try.checked) ownT started (by kernel_rfl) Try.func7
    (ChangeSpec.witness6 (enc := enc) (C := Try.checked) false ⟨#[], #[.int .i64 0, .int .i64 0], []⟩ 8 (by kernel_rfl) (by kernel_rfl) (by kernel_rfl) (by kernel_rfl)) ?_
  intro W base args ds gs before hval0 hW _ _
  have hval : ∀ (j : Nat) t v, Try.f7.params[j]? = some t → args[j]? = some v → Value.okWide Try.prog W .any base t v := hval0
  have hW' := hW
  obtain ⟨p, q, hA0, hV0, rfl, hfz, hnd⟩ := hW
  have hA : DataW.TrodAll enc Try.prog W 0 (fun _ => true) true Try.f7.params.toList args.toList ds p := hA0
  have hV : DataW.TrodVars enc Try.prog W (fun _ => true) [] gs q := hV0
  rw [Try.params7] at hA hval
  have hA' := hA
  obtain ⟨v0, v1, d0, d1, p0, p1, rfl, rfl, rfl, h0, h1⟩ := trodAll_two hA
  obtain ⟨n, rfl, rfl, rfl, hwn⟩ := open_int Try.underlying3 (hval 0 3 v0 rfl rfl) h0
  obtain ⟨m, rfl, rfl, rfl, hwm⟩ := open_int Try.underlying3 (hval 1 3 v1 rfl rfl) h1
  obtain ⟨rfl, rfl⟩ : gs = [] ∧ q = [] := by
    cases gs with
    | nil => exact ⟨rfl, hV⟩
    | cons g r => exact absurd hV (by intro h; cases h)
  have e1 : Rows.flowNilSpec.fn H ([.lit (.int .i64 n), .lit (.int .i64 m)] ++ []) = { results := [.lit (.bool true)], args := [.lit (.int .i64 n), .lit (.int .i64 m)] } := by simp [Rows.flowNilSpec]
  refine Calls.mono (flowNil_ok n m) fun e W' ⟨v, h', he, hin, hst, hv, hh⟩ => ?_
  subst he hv hh
  refine ⟨_, rfl, _, _, _, [], [], [], hW', ?_, ?_, ?_, hst.below.frame _, fun h => by cases h⟩
  · rw [e1]; exact trodAll_mk1 (shut_bool Try.underlying4 true)
  · rw [e1, Try.params7]; exact all_below laidOutT hA' (fun t ht => by
      have : t = 3 ∨ t = 3 := by simpa using ht
      rcases this with rfl | rfl <;> exact ⟨by kernel_rfl, of_decide_eq_true (by kernel_rfl)⟩) hst.below
  · rw [e1]; rfl
theorem flowNil_row : Rows.FlowNilSaid :=
  OpenClaim.holds_of_wide 7 Try.f7 rfl rfl rfl rfl rfl rfl rfl ⟨rfl, rfl, rfl, rfl, rfl⟩ rfl rfl rfl rfl rfl (by kernel_rfl) Try.func7 (by kernel_rfl)
    (of_decide_eq_true (by kernel_rfl)) (by unfold Func.isWrapper; rw [if_neg (of_decide_eq_false (by kernel_rfl))]; exact ⟨rfl, rfl⟩)
    (fun os started H enc _ => flowNil_lifted os started H enc)
#print axioms flowNil_row
end Go.Proofs.Ytkignenfgilepaa
