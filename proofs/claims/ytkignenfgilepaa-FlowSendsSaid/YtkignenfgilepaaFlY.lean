/- FlowSends' row. -/
import Derived.Test.YtkignenfgilepaaFlRwB
import Derived.Test.YtkignenfgilepaaFlX
set_option maxRecDepth 100000
namespace Go.Proofs.Ytkignenfgilepaa
open Go.ChangeShapes Go.WideShapes Go.RowKit Go Go.SL Go.Proofs.FlowVc
theorem flowSends_lifted (os : Os) (started : os.Started) (H : Type) (enc : TypeId × Value → H) :
    ReturnsInHanded {} Try.checked os 5 .any (Rows.flowSendsSpec.pre6 enc Try.prog Try.f5 Rows.flowSendsRow.domain false) (Rows.flowSendsSpec.post enc Try.prog Try.f5 false true false false) := by
  refine returnsInHanded_of_change_sized (C := Try.checked) ownT started (by kernel_rfl) Try.func5
    (ChangeSpec.witness6 (enc := enc) (C := Try.checked) false ⟨#[], #[.int .i64 0, .slice none 0 0], []⟩ 8 (by kernel_rfl) (by kernel_rfl) (by kernel_rfl) (by kernel_rfl)) ?_
  intro W base args ds gs before hval0 hW _ hwt _
  have hval : ∀ (j : Nat) t v, Try.f5.params[j]? = some t → args[j]? = some v → Value.okWide Try.prog W .any base t v := hval0
  have hwt' : (DataW.weightsEach Try.prog (Try.f5.params.toList ++ Rows.flowSendsSpec.plain.varTypes Try.prog) (ds ++ gs)).all (· ≤ reachBytes) = true := hwt
  have hW' := hW
  obtain ⟨p, q, hA0, hV0, rfl, hfz, hnd⟩ := hW
  have hA : DataW.TrodAll enc Try.prog W 0 (fun _ => true) true Try.f5.params.toList args.toList ds p := hA0
  have hV : DataW.TrodVars enc Try.prog W (fun _ => true) [] gs q := hV0
  rw [Try.params5] at hA hval hwt'
  have hA' := hA
  obtain ⟨v0, v1, d0, d1, p0, p1, rfl, rfl, rfl, h0, h1⟩ := trodAll_two hA
  obtain ⟨n, rfl, rfl, rfl, hwn⟩ := open_int Try.underlying3 (hval 0 3 v0 rfl rfl) h0
  obtain ⟨A, c, rs, rfl, hrd, hrs, hlen⟩ := open_script (okWide_slice (e := 35) (by kernel_rfl) (hval 1 22 v1 rfl rfl)) h1 (fun k hk => by
    have := List.all_eq_true.1 hwt' k (DataW.weights_mem_each (j := 1) (t := 22) (d := d1) rfl rfl k hk)
    simpa using this)
  obtain ⟨rfl, rfl⟩ : gs = [] ∧ q = [] := by
    cases gs with
    | nil => exact ⟨rfl, hV⟩
    | cons g r => exact absurd hV (by intro h; cases h)
  have e1 : Rows.flowSendsSpec.fn H ([.lit (.int .i64 n), d1] ++ []) = { results := [.lit (.bool true)], args := [.lit (.int .i64 n), d1] } := by simp [Rows.flowSendsSpec]
  refine Calls.mono (flowSends_ok (hw_in W) n rs hrd hrs hlen) fun e W' ⟨v, h', he, hin, hst, hv, hh⟩ => ?_
  subst he hv hh
  refine ⟨_, rfl, _, _, _, [], [] ++ p1, [], hW', ?_, by rw [e1, Try.params5]; exact all_below laidOutT hA' (fun t ht => by
      have : t = 3 ∨ t = 22 := by simpa using ht
      rcases this with rfl | rfl <;> exact ⟨by kernel_rfl, of_decide_eq_true (by kernel_rfl)⟩) hst.below, ?_, hst.below.frame _, fun h => by cases h⟩
  · rw [e1]; exact trodAll_mk1 (shut_bool Try.underlying4 true)
  · rw [e1]; rfl
theorem flowSends_row : Rows.FlowSendsSaid :=
  OpenClaim.holds_of_wide 5 Try.f5 rfl rfl rfl rfl rfl rfl rfl ⟨rfl, rfl, rfl, rfl, rfl⟩ rfl rfl rfl rfl rfl (by kernel_rfl) Try.func5 (by kernel_rfl)
    (of_decide_eq_true (by kernel_rfl)) (by unfold Func.isWrapper; rw [if_neg (of_decide_eq_false (by kernel_rfl))]; exact ⟨rfl, rfl⟩)
    (fun os started H enc _ => flowSends_lifted os started H enc)
#print axioms flowSends_row
end Go.Proofs.Ytkignenfgilepaa
