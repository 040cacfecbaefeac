/- FlowKeeps' row. -/
import Derived.Test.YtkignenfgilepaaFlRwA
import Derived.Test.YtkignenfgilepaaFlR
set_option maxRecDepth 100000
namespace Go.Proofs.Ytkignenfgilepaa
open Go.ChangeShapes Go.WideShapes Go.RowKit Go Go.SL Go.Proofs.FlowVc
theorem bxs_of {h : Hp} : ∀ (css : List (List Value)), (∀ ys ∈ css, Fa2 (C0.holds h) [.bytes] ys) → ∃ rs : List Bx, rs.length = css.length ∧ css.flatten = rs.map Bx.cell ∧ ∀ x ∈ rs, x.ok h
  | [], _ => ⟨[], rfl, rfl, fun x hx => by cases hx⟩
  | ys :: css, hall => by
    obtain ⟨rs, h1, h2, h3⟩ := bxs_of css fun y hy => hall y (by simp [hy])
    obtain ⟨v, rfl, A, l, c, rfl, hr, _, hc⟩ := fa1 (hall ys (by simp))
    refine ⟨⟨A, c, l⟩ :: rs, by simp [h1], by simp [h2, Bx.cell], fun x hx => ?_⟩
    rcases List.mem_cons.1 hx with rfl | hx
    · exact ⟨hr, hc⟩
    · exact h3 x hx
theorem one_of_cells {v : Value} {A : Option Addr} {n c : Nat} (h : v.cells.toList = [.slice A n c]) (hs : ∃ a l k, v = .slice a l k) : v = .slice A n c := by
  obtain ⟨a, l, k, rfl⟩ := hs
  simpa [Value.cells] using h
theorem open_rows {H : Type} {enc : TypeId × Value → H} {W : World} {sp : Nat → Bool} {hd : Bool} {v : Value} {d : DataW H} {ps : List MemPlace} (hs : ∃ a l k, v = .slice a l k) (h : DataW.Trod enc Try.prog W 0 sp hd 61 v d ps) :
    ∃ (A : Option Addr) (c : Nat) (rs : List Bx), v = Vs A rs.length c ∧ Rd (HW W) A (rs.map Bx.cell) ∧ ∀ x ∈ rs, x.ok (HW W) := by
  obtain ⟨A, c, css, hv, _, _, hr, hf, _⟩ := slice_ok (P := Try.prog) (e := 30) (ks := [.bytes]) 8 (by kernel_rfl) (by kernel_rfl) (by kernel_rfl) (by decide) h
  obtain ⟨rs, h1, h2, h3⟩ := bxs_of css hf
  rw [h2] at hr
  rw [← h1] at hv
  exact ⟨A, c, rs, one_of_cells hv hs, hr, h3⟩
theorem open_ints {H : Type} {enc : TypeId × Value → H} {W : World} {sp : Nat → Bool} {hd : Bool} {v : Value} {d : DataW H} {ps : List MemPlace} (hs : ∃ a l k, v = .slice a l k) (h : DataW.Trod enc Try.prog W 0 sp hd 31 v d ps) :
    ∃ (A : Option Addr) (c : Nat) (ds : List Int), v = Vs A ds.length c ∧ Rd (HW W) A (ds.map Vi) ∧ ∀ x ∈ ds, -9223372036854775808 ≤ x ∧ x ≤ 9223372036854775807 := by
  obtain ⟨A, c, css, hv, _, _, hr, hf, _⟩ := slice_ok (P := Try.prog) (e := 3) (ks := [.int .i64]) 8 (by kernel_rfl) (by kernel_rfl) (by kernel_rfl) (by decide) h
  obtain ⟨rs, h1, h2, h3⟩ := ints_of css hf
  rw [h2] at hr
  rw [← h1] at hv
  exact ⟨A, c, rs, one_of_cells hv hs, hr, h3⟩
theorem flowKeeps_lifted (os : Os) (started : os.Started) (H : Type) (enc : TypeId × Value → H) :
    ReturnsInHanded {} Try.checked os 6 .any (Rows.flowKeepsSpec.pre6 enc Try.prog Try.f6 Rows.flowKeepsRow.domain false) (Rows.flowKeepsSpec.post enc Try.prog Try.f6 false true false false) := by
  refine returnsInHanded_of_change (C := Try.checked) ownT started (by kernel_rfl) Try.func6
    (ChangeSpec.witness6 (enc := enc) (C := Try.checked) false ⟨#[], #[.int .i64 0, .slice none 0 0, .slice none 0 0], []⟩ 8 (by kernel_rfl) (by kernel_rfl) (by kernel_rfl) (by kernel_rfl)) ?_
  intro W base args ds gs before hval0 hW _ _
  have hval : ∀ (j : Nat) t v, Try.f6.params[j]? = some t → args[j]? = some v → Value.okWide Try.prog W .any base t v := hval0
  have hW' := hW
  obtain ⟨p, q, hA0, hV0, rfl, hfz, hnd⟩ := hW
  have hA : DataW.TrodAll enc Try.prog W 0 (fun _ => true) true Try.f6.params.toList args.toList ds p := hA0
  have hV : DataW.TrodVars enc Try.prog W (fun _ => true) [] gs q := hV0
  rw [Try.params6] at hA hval
  have hA' := hA
  obtain ⟨v0, v1, v2, d0, d1, d2, p0, p1, p2, rfl, rfl, rfl, h0, h1, h2⟩ := trodAll_three hA
  obtain ⟨n, rfl, rfl, rfl, hwn⟩ := open_int Try.underlying3 (hval 0 3 v0 rfl rfl) h0
  obtain ⟨A, c, rs, rfl, hrd, hrs⟩ := open_rows (okWide_slice (e := 30) (by kernel_rfl) (hval 1 61 v1 rfl rfl)) h1
  obtain ⟨B, d, is, rfl, hrd2, his⟩ := open_ints (okWide_slice (e := 3) (by kernel_rfl) (hval 2 31 v2 rfl rfl)) h2
  obtain ⟨rfl, rfl⟩ : gs = [] ∧ q = [] := by
    cases gs with
    | nil => exact ⟨rfl, hV⟩
    | cons g r => exact absurd hV (by intro h; cases h)
  have e1 : Rows.flowKeepsSpec.fn H ([.lit (.int .i64 n), d1, d2] ++ []) = { results := [.lit (.bool true)], args := [.lit (.int .i64 n), d1, d2] } := by simp [Rows.flowKeepsSpec]
  refine Calls.mono (flowKeeps_ok (hw_in W) n rs hrd hrs is hrd2 his) fun e W' ⟨v, h', he, hin, hst, hv, hh⟩ => ?_
  subst he hv hh
  refine ⟨_, rfl, _, _, _, [], [] ++ p1 ++ p2, [], hW', ?_, by rw [e1, Try.params6]; exact all_below laidOutT hA' (fun t ht => by
      have : t = 3 ∨ t = 61 ∨ t = 31 := by simpa using ht
      rcases this with rfl | rfl | rfl <;> exact ⟨by kernel_rfl, of_decide_eq_true (by kernel_rfl)⟩) hst.below, ?_, hst.below.frame _, fun h => by cases h⟩
  · rw [e1]; exact trodAll_mk1 (shut_bool Try.underlying4 true)
  · rw [e1]; rfl
theorem flowKeeps_row : Rows.FlowKeepsSaid :=
  OpenClaim.holds_of_wide 6 Try.f6 rfl rfl rfl rfl rfl rfl rfl ⟨rfl, rfl, rfl, rfl, rfl⟩ rfl rfl rfl rfl rfl (by kernel_rfl) Try.func6 (by kernel_rfl)
    (of_decide_eq_true (by kernel_rfl)) (by unfold Func.isWrapper; rw [if_neg (of_decide_eq_false (by kernel_rfl))]; exact ⟨rfl, rfl⟩)
    (fun os started H enc _ => flowKeeps_lifted os started H enc)
#print axioms flowKeeps_row
end Go.Proofs.Ytkignenfgilepaa
