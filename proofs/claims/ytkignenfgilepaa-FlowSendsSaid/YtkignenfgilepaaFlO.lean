/- FlowNil: what is nil answers its error. -/
import Derived.Test.YtkignenfgilepaaFlM
import Derived.Test.YtkignenfgilepaaFlN
open Go Go.SL Go.Proofs
set_option maxRecDepth 100000
set_option linter.unusedVariables false
namespace Go.Proofs.FlowVc
theorem nil27 {W : World} (B : Option Addr) (m d : Nat) : Ok Try.prog 27 #[Vp none, Vs B m d] W Hp.emp fun r h' _ => r = .tuple #[Vi 0, Vi 3] := by
  refine exec_ok' (P := Try.prog) n27 (fn := Try.f27) (by kernel_rfl) (args := [.raw (Vp none), .raw (Vs B m d)]) (cs := []) (vs := [Vp none, Vs B m d]) rfl (by kernel_rfl) (In.emp W) rfl (R := fun r h' => r = .tuple #[Vi 0, Vi 3]) ?_
  rw [w27]; exact ⟨rfl, q_none rfl⟩
theorem nil58 {W : World} (x : Int) : Ok Try.prog 58 #[Vp none, Vi x] W Hp.emp fun r h' _ => r = .tuple #[Vi 0, Vi 3] := by
  refine exec_ok' (P := Try.prog) n58 (fn := Try.f58) (by kernel_rfl) (args := [.raw (Vp none), .raw (Vi x)]) (cs := []) (vs := [Vp none, Vi x]) rfl (by kernel_rfl) (In.emp W) rfl (R := fun r h' => r = .tuple #[Vi 0, Vi 3]) ?_
  rw [w58]; exact ⟨rfl, q_none rfl⟩
theorem nil33 {W : World} : Ok Try.prog 33 #[Vp none] W Hp.emp fun r h' _ => r = .tuple #[Vi 0, Vi 0] := by
  refine exec_ok' (P := Try.prog) n33 (fn := Try.f33) (by kernel_rfl) (args := [.raw (Vp none)]) (cs := []) (vs := [Vp none]) rfl (by kernel_rfl) (In.emp W) rfl (R := fun r h' => r = .tuple #[Vi 0, Vi 0]) ?_
  rw [w33]; exact ⟨rfl, q_none rfl⟩
theorem nil20 {W : World} : Ok Try.prog 20 #[Vp none] W Hp.emp fun r h' _ => r = Vi 0 := by
  refine exec_ok' (P := Try.prog) n20 (fn := Try.f20) (by kernel_rfl) (args := [.raw (Vp none)]) (cs := []) (vs := [Vp none]) rfl (by kernel_rfl) (In.emp W) rfl (R := fun r h' => r = Vi 0) ?_
  rw [w20]; exact ⟨rfl, q_none rfl⟩
theorem nil21 {W : World} : Ok Try.prog 21 #[Vp none] W Hp.emp fun r h' _ => r = Vi 0 := by
  refine exec_ok' (P := Try.prog) n21 (fn := Try.f21) (by kernel_rfl) (args := [.raw (Vp none)]) (cs := []) (vs := [Vp none]) rfl (by kernel_rfl) (In.emp W) rfl (R := fun r h' => r = Vi 0) ?_
  rw [w21]; exact ⟨rfl, q_none rfl⟩
theorem nil24 {W : World} : Ok Try.prog 24 #[Vp none] W Hp.emp fun r h' _ => r = Vs none 0 0 := by
  refine exec_ok' (P := Try.prog) n24 (fn := Try.f24) (by kernel_rfl) (args := [.raw (Vp none)]) (cs := []) (vs := [Vp none]) rfl (by kernel_rfl) (In.emp W) rfl (R := fun r h' => r = Vs none 0 0) ?_
  rw [w24]; exact ⟨rfl, q_none rfl⟩
theorem nil16 {W : World} (x : Int) (B : Option Addr) (m d : Nat) : Ok Try.prog 16 #[Vp none, Vi x, Vs B m d] W Hp.emp fun r h' _ => r = .tuple #[Vi 0, Vi 3] := by
  refine exec_ok' (P := Try.prog) n16 (fn := Try.f16) (by kernel_rfl) (args := [.raw (Vp none), .raw (Vi x), .raw (Vs B m d)]) (cs := []) (vs := [Vp none, Vi x, Vs B m d]) rfl (by kernel_rfl) (In.emp W) rfl (R := fun r h' => r = .tuple #[Vi 0, Vi 3]) ?_
  rw [w16]; exact ⟨rfl, q_none rfl⟩
theorem nil18 {W : World} (x : Int) : Ok Try.prog 18 #[Vp none, Vi x] W Hp.emp fun r h' _ => r = .tuple #[Vs none 0 0, Vi 3] := by
  refine exec_ok' (P := Try.prog) n18 (fn := Try.f18) (by kernel_rfl) (args := [.raw (Vp none), .raw (Vi x)]) (cs := []) (vs := [Vp none, Vi x]) rfl (by kernel_rfl) (In.emp W) rfl (R := fun r h' => r = .tuple #[Vs none 0 0, Vi 3]) ?_
  rw [w18]; exact ⟨rfl, q_none rfl⟩
theorem nil29 {W : World} (x y : Int) : Ok Try.prog 29 #[Vp none, Vi x, Vi y] W Hp.emp fun r h' _ => r = .tuple #[Vs none 0 0, Vi 3] := by
  refine exec_ok' (P := Try.prog) m29 (fn := Try.f29) (by kernel_rfl) (args := [.raw (Vp none), .raw (Vi x), .raw (Vi y)]) (cs := []) (vs := [Vp none, Vi x, Vi y]) rfl (by kernel_rfl) (In.emp W) rfl (R := fun r h' => r = .tuple #[Vs none 0 0, Vi 3]) ?_
  rw [w29]
  refine call_read (by kernel_rfl) (Base.emp _) fun W1 h1 i1 s1 ig dg => Ok.mono (nil58 x) fun r h' W' _ _ hr => ⟨(0, 3, pU), hr, fun _ => q_none rfl, fun h => by cases h⟩
theorem nil31 {W : World} (x : Int) : Ok Try.prog 31 #[Vp none, Vi x] W Hp.emp fun r h' _ => r = .tuple #[Vi 0, Vi 3] := by
  refine exec_ok' (P := Try.prog) m31 (fn := Try.f31) (by kernel_rfl) (args := [.raw (Vp none), .raw (Vi x)]) (cs := []) (vs := [Vp none, Vi x]) rfl (by kernel_rfl) (In.emp W) rfl (R := fun r h' => r = .tuple #[Vi 0, Vi 3]) ?_
  rw [w31]
  refine call_read (by kernel_rfl) (Base.emp _) fun W1 h1 i1 s1 ig dg => Ok.mono (nil58 x) fun r h' W' _ _ hr => ⟨(0, 3, pU), hr, fun _ => q_none rfl, fun h => by cases h⟩
theorem flowNil_ok {W : World} (x n : Int) : Ok Try.prog 7 #[Vi x, Vi n] W Hp.emp fun r h' _ => r = Vo true ∧ h' = Hp.emp := by
  refine exec_ok' (P := Try.prog) a7 (fn := Try.f7) (by kernel_rfl) (args := [.raw (Vi x), .raw (Vi n)]) (cs := [.none, .none]) (vs := [Vi x, Vi n]) rfl (by kernel_rfl) (In.emp W) (satL_none (satL_none rfl)) (R := fun r h' => r = Vo true ∧ h' = Hp.emp) ?_
  rw [v7]
  intro b
  refine call_read (by kernel_rfl) (Base.emp _) fun W1 h1 i1 s1 ig dg => Ok.mono (nil27 _ 1 1) fun r h' W' _ _ hr => ⟨(0, 3, pU), hr, ?_⟩
  refine call_read (by kernel_rfl) (Base.emp _) fun W1 h1 i1 s1 ig dg => Ok.mono (nil29 x n) fun r h' W' _ _ hr => ⟨((none, 0, 0), 3, pU), hr, ?_⟩
  refine call_read (by kernel_rfl) (Base.emp _) fun W1 h1 i1 s1 ig dg => Ok.mono (nil31 x) fun r h' W' _ _ hr => ⟨(0, 3, pU), hr, ?_⟩
  refine call_read (by kernel_rfl) (Base.emp _) fun W1 h1 i1 s1 ig dg => Ok.mono nil33 fun r h' W' _ _ hr => ⟨(0, 0, pU), hr, fun b1 => ?_⟩
  refine call_read (by kernel_rfl) (Base.emp _) fun W1 h1 i1 s1 ig dg => Ok.mono (nil16 x _ 1 1) fun r h' W' _ _ hr => ⟨(0, 3, pU), hr, ?_⟩
  refine call_read (by kernel_rfl) (Base.emp _) fun W1 h1 i1 s1 ig dg => Ok.mono (nil18 n) fun r h' W' _ _ hr => ⟨((none, 0, 0), 3, pU), hr, ?_⟩
  refine call_read (by kernel_rfl) (Base.emp _) fun W1 h1 i1 s1 ig dg => Ok.mono awake_ok fun r h' W' _ _ hr => ⟨true, hr, fun _ => ?_, fun h => ?_⟩
  · refine call_read (by kernel_rfl) (Base.emp _) fun W1 h1 i1 s1 ig dg => Ok.mono nil24 fun r h' W' _ _ hr => ⟨(none, 0, 0), hr, fun _ => ?_, fun h => ?_⟩
    · refine call_read (by kernel_rfl) (Base.emp _) fun W1 h1 i1 s1 ig dg => Ok.mono nil20 fun r h' W' _ _ hr => ⟨0, hr, ?_⟩
      refine call_read (by kernel_rfl) (Base.emp _) fun W1 h1 i1 s1 ig dg => Ok.mono nil21 fun r h' W' _ _ hr => ⟨0, hr, q_none ⟨?_, rfl⟩⟩
      rw [wr_id (by omega) (by omega)]; rfl
    · exfalso; revert h; simp only; rw [wr_id (n := ((0 : Nat) : Int) + ((0 : Nat) : Int)) (by omega) (by omega)]; rw [wr_id (by omega) (by omega)]; decide
  · exfalso; revert h; simp only; rw [wr_id (n := (0 : Int) + 0) (by omega) (by omega)]; repeat rw [wr_id (by omega) (by omega)]
    decide
end Go.Proofs.FlowVc
