/- What the rows of this seat's laws have in common: the variable that the program's text lays; packets as arguments. -/
import Derived.Test.YtocloghnfnkchaaDoorSpH
import Derived.Test.YtocloghnfnkchaaDoorArg
import Derived.Test.YtocloghnfnkchaaDoorRows
import Derived.Test.YtocloghnfnkchaaDoorCards
import Derived.Test.YtocloghnfnkchaaDoorTie
import Derived.ChangeSame
import Derived.ChangeVars
import Derived.JoinedOf
import Derived.RowKit
import Derived.RowKitTokens
import Derived.LaidLaws
import Derived.LaidHandle
import Derived.Stop.Joined
import Derived.SevenTiedAt
set_option maxRecDepth 100000
namespace Go.Proofs.YtocloghnfnkchaaDoor
open Go.ChangeShapes Go.WideShapes Go.RowKit Go Go.SL Go.Proofs.SplitVc

abbrev laidL : List (String × DataW Unit) := [("errors.errorType", Rows.laid_errors_errorType)]
theorem ownT : ownKnob Tryd.prog.godebug = none := by kernel_rfl
theorem etT : Tryd.prog.globalNamed "errors.errorType" = some 0 := by kernel_rfl
theorem rtT : (Tryd.prog.cutTypes.find? (·.1 == "internal/reflectlite.rtype")).map (·.2) = some 95 := by kernel_rfl
theorem oneRowT : ((List.range 136).filter fun t => Tryd.prog.rowNamed t [101, 114, 114, 111, 114]) = [43] := by kernel_rfl
theorem sizeT : Tryd.prog.types.size = 136 := by kernel_rfl
theorem handle_of_laid {W : World} (h : laidMetH Tryd.prog laidL W) : W.cell? ⟨0, 0, none⟩ = some (.iface 95 (.agg #[.pointer (some ⟨2, 43, none⟩)])) := by
  have h' : laidMet Tryd.prog [] W ∧ handlesMet Tryd.prog laidL W := h
  obtain ⟨name, u, ty, e1, e2, e3, e4, e5⟩ := h'.2 _ (List.mem_singleton.2 rfl)
  have en : name = [101, 114, 114, 111, 114] := (Option.some.inj e1).symm
  subst en
  obtain rfl := Option.some.inj (rtT.symm.trans e2)
  have hm : ty ∈ (List.range 136).filter fun t => Tryd.prog.rowNamed t [101, 114, 114, 111, 114] := List.mem_filter.2 ⟨List.mem_range.2 (by rw [← sizeT]; exact e3), e4⟩
  rw [oneRowT] at hm
  obtain rfl := List.mem_singleton.1 hm
  have hh : typeHandle Tryd.prog 43 = .pointer (some ⟨2, 43, none⟩) := by kernel_rfl
  rw [hh] at e5
  simpa using World.var?_cell etT e5 0
/-- What is laid, as a part of the heap. -/
theorem laid_hp {W : World} (h : W.cell? ⟨0, 0, none⟩ = some (.iface 95 (.agg #[.pointer (some ⟨2, 43, none⟩)]))) : ∃ g, In W g ∧ Laid g := by
  simp only [World.cell?] at h
  split at h
  · rename_i cs T fz e
    refine ⟨Hp.one 0 (.cells cs T fz), ?_, cs, T, fz, by simp [Hp.one], by simpa using h⟩
    intro b o hb
    unfold Hp.one at hb
    split at hb
    · rename_i e2; subst e2; cases hb; exact e
    · cases hb
  · cases h
noncomputable def laidWorld (os : Os) : World :=
  let w0 := World.holding Tryd.prog os ⟨#[], #[], []⟩
  { w0 with heap := w0.heap.modify 0 fun
      | .cells _ t frozen => .cells #[.iface 95 (.agg #[.pointer (some ⟨2, 43, none⟩)])] t frozen
      | o => o }
theorem laidWorld_met (os : Os) (args : Array Value) : laidMetH Tryd.prog laidL ((laidWorld os).forCall (fun _ _ => 0) ⟨#[], args, []⟩).memory :=
  laidMetH_of_parts (laidMet_nil _ _) (by kernel_rfl)

theorem laidOutT : laidOutB Tryd.prog = true := by kernel_rfl
theorem agg_of {v : Value} {l : List Value} (h : v.cells.toList = l) (hl : l.length ≠ 1) : v = .agg l.toArray := by
  cases v <;> simp [Value.cells] at h <;> first | (subst h; simp; done) | (subst h; exact absurd rfl hl)
/-- A packet that reads as data. -/
theorem open_pk {H : Type} {enc : TypeId × Value → H} {W : World} {sp : Nat → Bool} {hd : Bool} {v : Value} {d : DataW H} {ps : List MemPlace} (h : DataW.Trod enc Tryd.prog W 0 sp hd 24 v d ps) :
    ∃ (x : Pd) (A : Option Addr) (c : Nat), v = (x.pk A c).val ∧ It.ok (x, A, c) (HW W) := by
  have hk : flatC Tryd.prog 8 24 = some [.int .i64, .int .i64, .int .i64, .int .i64, .bool, .bool, .int .i64, .str, .str, .str, .bytes] := by kernel_rfl
  have hf := flat_val 8 hk h
  obtain ⟨v0, l0, e0, ⟨tos, rfl, _⟩, hf1⟩ := fac hf
  obtain ⟨v1, l1, rfl, ⟨id, rfl, _⟩, hf2⟩ := fac hf1
  obtain ⟨v2, l2, rfl, ⟨ttl, rfl, _⟩, hf3⟩ := fac hf2
  obtain ⟨v3, l3, rfl, ⟨proto, rfl, _⟩, hf4⟩ := fac hf3
  obtain ⟨v4, l4, rfl, ⟨df, rfl⟩, hf5⟩ := fac hf4
  obtain ⟨v5, l5, rfl, ⟨mf, rfl⟩, hf6⟩ := fac hf5
  obtain ⟨v6, l6, rfl, ⟨off, rfl, _⟩, hf7⟩ := fac hf6
  obtain ⟨v7, l7, rfl, ⟨src, rfl, _⟩, hf8⟩ := fac hf7
  obtain ⟨v8, l8, rfl, ⟨dst, rfl, _⟩, hf9⟩ := fac hf8
  obtain ⟨v9, l9, rfl, ⟨opts, rfl, _⟩, hf10⟩ := fac hf9
  obtain ⟨v10, l10, rfl, ⟨A, data, c, rfl, hrd, hnil, hle⟩, hf11⟩ := fac hf10
  obtain rfl := fa0 hf11
  exact ⟨⟨tos, id, ttl, proto, df, mf, off, src, dst, opts, data⟩, A, c, agg_of e0 (by simp), hrd, hnil, hle⟩
end Go.Proofs.YtocloghnfnkchaaDoor
