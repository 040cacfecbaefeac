/- What the functions' texts ask: FlowSends' helpers. -/
import Derived.Test.YtkignenfgilepaaMore
import Derived.Test.YtkignenfgilepaaProg
open Go Go.SL Go.Proofs
set_option maxRecDepth 100000
set_option linter.unusedVariables false
namespace Go.Proofs.FlowVc
def a12 : Ann := { gen := [(7, 7), (6, 1)], loops := [(5, ⟨[(3, .one (.int .i64)), (4, .one (.int .i64))], []⟩)] }
def a15 : Ann := { fm := [(5, 5, [(0, .own)])], gen := [(4, 1)], loops := [(3, ⟨[(3, .one .slc), (4, .one (.int .i64))], [(0, .own)]⟩)] }
def a28 : Ann :=
  { ord := [(1, [(0, .p), (1, .p), (2, .p), (3, .p), (4, .p), (5, .l 0 0 1), (6, .p), (7, .p), (8, .p), (9, .l 0 1 1), (10, .p), (11, .p), (12, .p), (13, .p), (14, .l 0 2 1), (15, .p), (16, .p), (17, .p), (18, .g)]),
      (2, [(0, .p), (1, .p), (2, .p), (3, .p), (4, .l 0 1 1), (5, .p), (6, .p), (7, .p), (8, .a 2), (9, .h), (10, .p), (11, .p), (12, .s 0 1 1)])],
    fm := [(2, 9, [(3, .own)])],
    names := [(33, 2)] }
def a30 : Ann := { fm := [(6, 8, [(2, .own)])], gen := [(3, 5), (5, 3)], names := [(48, 3)], joins := [(6, ⟨[(8, .one (.int .i64))], []⟩)] }
def a32 : Ann := {}
theorem v12 (H : HOps) (A : Option Addr) (n c : Nat) (Q : List Value → List Ch → Prop) :
  execFn Try.prog H a12 Try.f12 [.raw (Vs A n c)] [] Q =
  ((decide ((↑n : Int) > (60 : Int)) = true → Q [Vo false] []) ∧ (decide ((↑n : Int) > (60 : Int)) = false → H.loop (Int × Int × PUnit) [] [] ((0 : Int), (0 : Int), pU) fun (x : Int × Int × PUnit) (y : PUnit) (next : TupL (LF.mk [(3, TS.one (Sc.int IntKind.i64)), (4, TS.one (Sc.int IntKind.i64))] []).sl → List Ch → Prop) => (decide (x.snd.fst < (↑n : Int)) = true → (A ≠ none ∧ (0 : Int) ≤ x.snd.fst ∧ x.snd.fst < (↑n : Int)) ∧ H.ld (oS) (Instr.loadAt 30 (Vp (some (Addr.mk ((oget A).add (Int.toNat x.snd.fst * 4)).block (((oget A).add (Int.toNat x.snd.fst * 4)).off + 3) none)))) [] fun (v : Option Addr × Nat × Nat) => ∀ (x_1 : Int), x_1 = wr (x.fst + (↑v.snd.fst : Int)) → ∀ (x_2 : Int), x_2 = wr (x.snd.fst + (1 : Int)) → next (x_1, x_2, pU) []) ∧ (decide (x.snd.fst < (↑n : Int)) = false → Q [Vo (decide (x.fst ≤ (3000 : Int)))] []))) := by kernel_rfl
theorem v15 (H : HOps) (A : Option Addr) (n c : Nat) (Q : List Value → List Ch → Prop) :
  execFn Try.prog H a15 Try.f15 [.raw (Vs A n c)] [.none] Q =
  (H.loop ((Option Addr × Nat × Nat) × Int × PUnit) [cN] [(0, CF.own)] ((none, 0, 0), (0 : Int), pU) fun (x : (Option Addr × Nat × Nat) × Int × PUnit) (y : CF.own.ty × PUnit) (next : TupL (LF.mk [(3, TS.one Sc.slc), (4, TS.one (Sc.int IntKind.i64))] [(0, CF.own)]).sl → List Ch → Prop) => (decide (x.snd.fst < (↑n : Int)) = true → (A ≠ none ∧ (0 : Int) ≤ x.snd.fst ∧ x.snd.fst < (↑n : Int)) ∧ H.ld (oS) (Instr.loadAt 30 (Vp (some ((oget A).add (Int.toNat x.snd.fst * 1))))) [Ch.own y.1] fun (v : Option Addr × Nat × Nat) => H.v (oS) (Builtin.append_ (Array.mk [30, 30]) 30 (Array.mk [Vs x.fst.fst x.fst.snd.fst x.fst.snd.snd, Vs v.fst v.snd.fst v.snd.snd])) [Ch.own y.1] [(0, CF.own)] fun (v : Option Addr × Nat × Nat) (y : CF.own.ty × PUnit) => ∀ (x_1 : Int), x_1 = wr (x.snd.fst + (1 : Int)) → next ((v.fst, v.snd.fst, v.snd.snd), x_1, pU) [Ch.own y.1]) ∧ (decide (x.snd.fst < (↑n : Int)) = false → Q [Vs x.fst.fst x.fst.snd.fst x.fst.snd.snd] [Ch.own y.1])) := by kernel_rfl
theorem v28 (H : HOps) (b : Nat) (size first : Int) (A : Option Addr) (n c : Nat) (O : Hp → Prop) (B : Option Addr) (m d : Nat) (Q : List Value → List Ch → Prop) :
  execFn Try.prog H a28 Try.f28 [.ptr 0 0, .raw (Vs B m d)] [.blk b [Vi size, Vs A n c, Vi first] 55, .own O, .none, .none] Q =
  (∀ (x : Int), (x = if wr (size - wr ((↑n : Int) - first)) < (↑m : Int) then wr (size - wr ((↑n : Int) - first)) else (↑m : Int)) → ((0 : Int) ≤ x ∧ x ≤ (↑d : Int)) ∧ ∀ (b_1 : Nat), H.call (oS) 15 [Vs (some (Addr.mk b_1 0 none)) 2 2] [Ch.blk b [Vi size, Vs A n c, Vi first] 55, Ch.own O, Ch.blk b_1 [Vs A n c, Vs (subA B d 0 1) x.toNat d] 30, cN] [(3, CF.own)] fun (v : Option Addr × Nat × Nat) (y : CF.own.ty × PUnit) => Q [Vi x, Vi (0 : Int)] [Ch.blk b [Vi size, Vs v.fst v.snd.fst v.snd.snd, Vi first] 55, Ch.own O, Ch.blk b_1 [Vs A n c, Vs (subA B d 0 1) x.toNat d] 30, Ch.own y.1]) := by kernel_rfl
theorem v30 (H : HOps) (b : Nat) (size first : Int) (A : Option Addr) (n c : Nat) (O : Hp → Prop) (x y : Int) (Q : List Value → List Ch → Prop) :
  execFn Try.prog H a30 Try.f30 [.ptr 0 0, .raw (Vi x), .raw (Vi y)] [.blk b [Vi size, Vs A n c, Vi first] 55, .own O, .none, .none] Q =
  (((decide (x < first) || decide (x > (↑n : Int)) || decide (y < (0 : Int))) = true → Q [Vs none 0 0, Vi (1 : Int)] [Ch.blk b [Vi size, Vs A n c, Vi first] 55, Ch.own O, cN, cN]) ∧ ((decide (x < first) || decide (x > (↑n : Int)) || decide (y < (0 : Int))) = false → ∀ (x_1 : Int), x_1 = (↑n : Int) → H.join (Int × PUnit) [Ch.blk b [Vi size, Vs A n c, Vi first] 55, Ch.own O, cN, cN] [] (fun (j : TupL (LF.mk [(8, TS.one (Sc.int IntKind.i64))] []).sl → List Ch → Prop) => (decide (y < wr (x_1 - x)) = true → ∀ (x_2 : Int), x_2 = wr (x + y) → j (x_2, pU) [Ch.blk b [Vi size, Vs A n c, Vi first] 55, Ch.own O, cN, cN]) ∧ (decide (y < wr (x_1 - x)) = false → j (x_1, pU) [Ch.blk b [Vi size, Vs A n c, Vi first] 55, Ch.own O, cN, cN])) fun (x_2 : Int × PUnit) (y : PUnit) => ((0 : Int) ≤ x ∧ x ≤ x_2.fst ∧ x_2.fst ≤ (↑c : Int)) ∧ ∀ (b_1 : Nat), H.call (oS) 15 [Vs (some (Addr.mk b_1 0 none)) 1 1] [Ch.blk b [Vi size, Vs A n c, Vi first] 55, Ch.own O, cN, Ch.blk b_1 [Vs (subA A c x.toNat 1) (Int.toNat x_2.fst - x.toNat) (c - x.toNat)] 30] [(2, CF.own)] fun (v : Option Addr × Nat × Nat) (y : CF.own.ty × PUnit) => Q [Vs v.fst v.snd.fst v.snd.snd, Vi (0 : Int)] [Ch.blk b [Vi size, Vs A n c, Vi first] 55, Ch.own O, Ch.own y.1, Ch.blk b_1 [Vs (subA A c x.toNat 1) (Int.toNat x_2.fst - x.toNat) (c - x.toNat)] 30])) := by kernel_rfl
theorem v32 (H : HOps) (b : Nat) (size first : Int) (A : Option Addr) (n c : Nat) (x : Int) (Q : List Value → List Ch → Prop) :
  execFn Try.prog H a32 Try.f32 [.ptr 0 0, .raw (Vi x)] [.blk b [Vi size, Vs A n c, Vi first] 55] Q =
  (((decide (x < first) || decide (x > (↑n : Int))) = true → Q [Vi (0 : Int), Vi (1 : Int)] [Ch.blk b [Vi size, Vs A n c, Vi first] 55]) ∧ ((decide (x < first) || decide (x > (↑n : Int))) = false → Q [Vi (wr (x - first)), Vi (0 : Int)] [Ch.blk b [Vi size, Vs A n c, Vi x] 55])) := by kernel_rfl
end Go.Proofs.FlowVc

