/- What the functions' texts ask: flow's sender, and small ones. -/
import Derived.Test.YtkignenfgilepaaUse
import Derived.Test.YtkignenfgilepaaMut
import Derived.Test.YtkignenfgilepaaProg
open Go Go.SL Go.Proofs
set_option maxRecDepth 100000
set_option linter.unusedVariables false
namespace Go.Proofs.FlowVc
def a48 : Ann := {}
def a26 : Ann := { names := [(9, 0)] }
def a13 : Ann := { names := [(9, 0)] }
def a49 : Ann := { fm := [(3, 2, [(1, .own)])], names := [(5, 0)] }
def a58 : Ann :=
  { ord := [(3, [(0, .p), (1, .p), (2, .p), (3, .p), (4, .l 0 1 1), (5, .p), (6, .p), (7, .p), (8, .p), (9, .p), (10, .p), (11, .l 0 1 1), (12, .p), (13, .p), (14, .p), (15, .p), (16, .l 0 2 1), (17, .p), (18, .p), (19, .p), (20, .p)])],
    fix := [(6, false)] }
def a27 : Ann :=
  { ord := [(3, [(0, .p), (1, .p), (2, .p), (3, .p), (4, .p), (5, .l 0 0 1), (6, .p), (7, .p), (8, .p), (9, .l 0 2 1), (10, .p), (11, .p), (12, .p), (13, .p)]),
      (4, [(0, .p), (1, .p), (2, .p), (3, .p), (4, .l 0 2 1), (5, .p), (6, .p), (7, .p), (8, .p), (9, .h), (10, .p), (11, .p), (12, .s 0 2 1)])],
    fm := [(4, 9, [(1, .own)])],
    gen := [(3, 12)],
    fix := [(8, false)] }
def a29 : Ann := { fm := [(6, 9, [(2, .own)]), (7, 7, [(2, .own)])] }
def a31 : Ann :=
  { ord := [(4, [(0, .p), (1, .p), (2, .p), (3, .l 0 2 1), (4, .p), (5, .p), (6, .p), (7, .l 0 2 1), (8, .p), (9, .p), (10, .h), (11, .p)])],
    fm := [(4, 10, [(1, .own)])] }
def a33 : Ann :=
  { ord := [(3, [(0, .p), (1, .p), (2, .p), (3, .l 0 1 1), (4, .p), (5, .p), (6, .p), (7, .l 0 1 1), (8, .p), (9, .p), (10, .p), (11, .l 0 2 1), (12, .p), (13, .p), (14, .p), (15, .p)])],
    fix := [(5, false)] }
def a20 : Ann := { fix := [(4, false)] }
def a21 : Ann := { ord := [(3, [(0, .p), (1, .p), (2, .p), (3, .l 0 0 1), (4, .p), (5, .p), (6, .p), (7, .l 0 2 1), (8, .p), (9, .p), (10, .p)])], fix := [(4, false)] }
def n27 : Ann := { fix := [(8, true)] }
def n58 : Ann := { fix := [(6, true)] }
def n29 : Ann := {}
def n33 : Ann := { fix := [(5, true)] }
def n20 : Ann := { fix := [(4, true)] }
def n21 : Ann := { fix := [(4, true)] }
theorem v48 (H : HOps) (room : Int) (Q : List Value → List Ch → Prop) :
  execFn Try.prog H a48 Try.f48 [.raw (Vi room)] [] Q =
  (Q [Vo (decide (room ≥ (1 : Int)) && decide (room ≤ (65535 : Int)))] []) := by kernel_rfl
theorem v26 (H : HOps) (room : Int) (Q : List Value → List Ch → Prop) :
  execFn Try.prog H a26 Try.f26 [.raw (Vi room)] [.none] Q =
  (H.call (oB) 48 [Vi room] [cN] [] fun (v : Bool) (y : PUnit) => ((!v) = true → Q [Vp none, Vi (1 : Int)] [cN]) ∧ ((!v) = false → ∀ (b : Nat), Q [Vp (some (Addr.mk b 0 none)), Vi (0 : Int)] [Ch.blk b [Vi room, Vi (0 : Int), Vs none 0 0] 116])) := by kernel_rfl
theorem v13 (H : HOps) (room : Int) (Q : List Value → List Ch → Prop) :
  execFn Try.prog H a13 Try.f13 [.raw (Vi room)] [.none] Q =
  (H.call (oB) 48 [Vi room] [cN] [] fun (v : Bool) (y : PUnit) => ((!v) = true → Q [Vp none, Vi (1 : Int)] [cN]) ∧ ((!v) = false → ∀ (b : Nat), Q [Vp (some (Addr.mk b 0 none)), Vi (0 : Int)] [Ch.blk b [Vi room, Vi (0 : Int), Vs none 0 0, Vs none 0 0] 102])) := by kernel_rfl
theorem v49 (H : HOps) (A : Option Addr) (n c : Nat) (Q : List Value → List Ch → Prop) :
  execFn Try.prog H a49 Try.f49 [.raw (Vs A n c)] [.none, .none] Q =
  ((A.isNone = true → Q [Vs none 0 0] [cN, cN]) ∧ (A.isNone = false → ∀ (b : Nat), H.v (oS) (Builtin.append_ (Array.mk [30, 30]) 30 (Array.mk [Vs (some (Addr.mk b 0 none)) 0 0, Vs A n c])) [Ch.blk b [] 5, cN] [(1, CF.own)] fun (v : Option Addr × Nat × Nat) (y : CF.own.ty × PUnit) => Q [Vs v.fst v.snd.fst v.snd.snd] [Ch.blk b [] 5, Ch.own y.1])) := by kernel_rfl
theorem v58 (H : HOps) (b : Nat) (room first : Int) (A : Option Addr) (n c : Nat) (x : Int) (Q : List Value → List Ch → Prop) :
  execFn Try.prog H a58 Try.f58 [.ptr 0 0, .raw (Vi x)] [.blk b [Vi room, Vi first, Vs A n c] 116] Q =
  ((some (Addr.mk b 0 none)).isNone = false ∧ ((decide (x < first) || decide (wr (x - first) > (↑n : Int))) = true → Q [Vi (0 : Int), Vi (1 : Int)] [Ch.blk b [Vi room, Vi first, Vs A n c] 116]) ∧ ((decide (x < first) || decide (wr (x - first) > (↑n : Int))) = false → Q [Vi (wr (x - first)), Vi (0 : Int)] [Ch.blk b [Vi room, Vi first, Vs A n c] 116])) := by kernel_rfl
theorem v27 (H : HOps) (b : Nat) (room first : Int) (A : Option Addr) (n c : Nat) (O : Hp → Prop) (B : Option Addr) (m d : Nat) (Q : List Value → List Ch → Prop) :
  execFn Try.prog H a27 Try.f27 [.ptr 0 0, .raw (Vs B m d)] [.blk b [Vi room, Vi first, Vs A n c] 116, .own O] Q =
  ((some (Addr.mk b 0 none)).isNone = false ∧ (((0 : Int) ≤ if wr (room - (↑n : Int)) < (↑m : Int) then wr (room - (↑n : Int)) else (↑m : Int)) ∧ ((if wr (room - (↑n : Int)) < (↑m : Int) then wr (room - (↑n : Int)) else (↑m : Int)) ≤ if wr (room - (↑n : Int)) < (↑m : Int) then wr (room - (↑n : Int)) else (↑m : Int)) ∧ (if wr (room - (↑n : Int)) < (↑m : Int) then wr (room - (↑n : Int)) else (↑m : Int)) ≤ (↑d : Int)) ∧ H.v (oS) (Builtin.append_ (Array.mk [30, 30]) 30 (Array.mk [Vs A n c, Vs (subA B (if wr (room - (↑n : Int)) < (↑m : Int) then wr (room - (↑n : Int)) else (↑m : Int)).toNat 0 1) (if wr (room - (↑n : Int)) < (↑m : Int) then wr (room - (↑n : Int)) else (↑m : Int)).toNat (if wr (room - (↑n : Int)) < (↑m : Int) then wr (room - (↑n : Int)) else (↑m : Int)).toNat])) [Ch.blk b [Vi room, Vi first, Vs A n c] 116, Ch.own O] [(1, CF.own)] fun (v : Option Addr × Nat × Nat) (y : CF.own.ty × PUnit) => Q [Vi (if wr (room - (↑n : Int)) < (↑m : Int) then wr (room - (↑n : Int)) else (↑m : Int)), Vi (0 : Int)] [Ch.blk b [Vi room, Vi first, Vs v.fst v.snd.fst v.snd.snd] 116, Ch.own y.1]) := by kernel_rfl
theorem v29 (H : HOps) (b : Nat) (room first : Int) (A : Option Addr) (n c : Nat) (O : Hp → Prop) (x y : Int) (Q : List Value → List Ch → Prop) :
  execFn Try.prog H a29 Try.f29 [.ptr 0 0, .raw (Vi x), .raw (Vi y)] [.blk b [Vi room, Vi first, Vs A n c] 116, .own O, .none] Q =
  (H.call (OS.tup [TS.one (Sc.int IntKind.i64), TS.one (Sc.int IntKind.i64)]) 58 [Vp (some (Addr.mk b 0 none)), Vi x] [Ch.blk b [Vi room, Vi first, Vs A n c] 116, Ch.own O, cN] [] fun (v : Int × Int × PUnit) (y_1 : PUnit) => ((v.snd.fst != (0 : Int)) = true → Q [Vs none 0 0, Vi v.snd.fst] [Ch.blk b [Vi room, Vi first, Vs A n c] 116, Ch.own O, cN]) ∧ ((v.snd.fst != (0 : Int)) = false → (decide (y < (0 : Int)) = true → Q [Vs none 0 0, Vi (1 : Int)] [Ch.blk b [Vi room, Vi first, Vs A n c] 116, Ch.own O, cN]) ∧ (decide (y < (0 : Int)) = false → H.v (oS) (Instr.makeSlice 30 (Vi (if wr ((↑n : Int) - v.fst) < y then wr ((↑n : Int) - v.fst) else y)) (Vi (if wr ((↑n : Int) - v.fst) < y then wr ((↑n : Int) - v.fst) else y))) [Ch.blk b [Vi room, Vi first, Vs A n c] 116, Ch.own O, cN] [(2, CF.own)] fun (v_1 : Option Addr × Nat × Nat) (y : CF.own.ty × PUnit) => ((0 : Int) ≤ v.fst ∧ v.fst ≤ (↑n : Int)) ∧ H.v (oI) (Builtin.copy_ (Array.mk [30, 30]) 3 (Array.mk [Vs v_1.fst v_1.snd.fst v_1.snd.snd, Vs (subA A c (Int.toNat v.fst) 1) (n - Int.toNat v.fst) (c - Int.toNat v.fst)])) [Ch.blk b [Vi room, Vi first, Vs A n c] 116, Ch.own O, Ch.own y.1] [(2, CF.own)] fun (v : Int) (y : CF.own.ty × PUnit) => Q [Vs v_1.fst v_1.snd.fst v_1.snd.snd, Vi (0 : Int)] [Ch.blk b [Vi room, Vi first, Vs A n c] 116, Ch.own O, Ch.own y.1]))) := by kernel_rfl
theorem v31 (H : HOps) (b : Nat) (room first : Int) (A : Option Addr) (n c : Nat) (O : Hp → Prop) (x : Int) (Q : List Value → List Ch → Prop) :
  execFn Try.prog H a31 Try.f31 [.ptr 0 0, .raw (Vi x)] [.blk b [Vi room, Vi first, Vs A n c] 116, .own O] Q =
  (H.call (OS.tup [TS.one (Sc.int IntKind.i64), TS.one (Sc.int IntKind.i64)]) 58 [Vp (some (Addr.mk b 0 none)), Vi x] [Ch.blk b [Vi room, Vi first, Vs A n c] 116, Ch.own O] [] fun (v : Int × Int × PUnit) (y : PUnit) => ((v.snd.fst != (0 : Int)) = true → Q [Vi (0 : Int), Vi v.snd.fst] [Ch.blk b [Vi room, Vi first, Vs A n c] 116, Ch.own O]) ∧ ((v.snd.fst != (0 : Int)) = false → ((0 : Int) ≤ v.fst ∧ v.fst ≤ (↑n : Int)) ∧ H.v (oI) (Builtin.copy_ (Array.mk [30, 30]) 3 (Array.mk [Vs A n c, Vs (subA A c (Int.toNat v.fst) 1) (n - Int.toNat v.fst) (c - Int.toNat v.fst)])) [Ch.blk b [Vi room, Vi first, Vs A n c] 116, Ch.own O] [(1, CF.own)] fun (v_1 : Int) (y : CF.own.ty × PUnit) => ((0 : Int) ≤ v_1 ∧ v_1 ≤ (↑c : Int)) ∧ Q [Vi v.fst, Vi (0 : Int)] [Ch.blk b [Vi room, Vi (wr (first + v.fst)), Vs (subA A c 0 1) v_1.toNat c] 116, Ch.own y.1])) := by kernel_rfl
theorem v33 (H : HOps) (b : Nat) (room first : Int) (A : Option Addr) (n c : Nat) (Q : List Value → List Ch → Prop) :
  execFn Try.prog H a33 Try.f33 [.ptr 0 0] [.blk b [Vi room, Vi first, Vs A n c] 116] Q =
  ((some (Addr.mk b 0 none)).isNone = false ∧ Q [Vi first, Vi (wr (first + (↑n : Int)))] [Ch.blk b [Vi room, Vi first, Vs A n c] 116]) := by kernel_rfl
theorem v20 (H : HOps) (b : Nat) (room nx : Int) (A : Option Addr) (n c : Nat) (B : Option Addr) (m d : Nat) (Q : List Value → List Ch → Prop) :
  execFn Try.prog H a20 Try.f20 [.ptr 0 0] [.blk b [Vi room, Vi nx, Vs A n c, Vs B m d] 102] Q =
  ((some (Addr.mk b 0 none)).isNone = false ∧ Q [Vi nx] [Ch.blk b [Vi room, Vi nx, Vs A n c, Vs B m d] 102]) := by kernel_rfl
theorem v21 (H : HOps) (b : Nat) (room nx : Int) (A : Option Addr) (n c : Nat) (B : Option Addr) (m d : Nat) (Q : List Value → List Ch → Prop) :
  execFn Try.prog H a21 Try.f21 [.ptr 0 0] [.blk b [Vi room, Vi nx, Vs A n c, Vs B m d] 102] Q =
  ((some (Addr.mk b 0 none)).isNone = false ∧ Q [Vi (wr (room - (↑n : Int)))] [Ch.blk b [Vi room, Vi nx, Vs A n c, Vs B m d] 102]) := by kernel_rfl
theorem w27 (H : HOps) (B : Option Addr) (m d : Nat) (Q : List Value → List Ch → Prop) :
  execFn Try.prog H n27 Try.f27 [.raw (Vp none), .raw (Vs B m d)] [] Q =
  ((none : Option Addr).isNone = true ∧ Q [Vi (0 : Int), Vi (3 : Int)] []) := by kernel_rfl
theorem w58 (H : HOps) (x : Int) (Q : List Value → List Ch → Prop) :
  execFn Try.prog H n58 Try.f58 [.raw (Vp none), .raw (Vi x)] [] Q =
  ((none : Option Addr).isNone = true ∧ Q [Vi (0 : Int), Vi (3 : Int)] []) := by kernel_rfl
theorem w33 (H : HOps) (Q : List Value → List Ch → Prop) :
  execFn Try.prog H n33 Try.f33 [.raw (Vp none)] [] Q =
  ((none : Option Addr).isNone = true ∧ Q [Vi (0 : Int), Vi (0 : Int)] []) := by kernel_rfl
theorem w20 (H : HOps) (Q : List Value → List Ch → Prop) :
  execFn Try.prog H n20 Try.f20 [.raw (Vp none)] [] Q =
  ((none : Option Addr).isNone = true ∧ Q [Vi (0 : Int)] []) := by kernel_rfl
theorem w21 (H : HOps) (Q : List Value → List Ch → Prop) :
  execFn Try.prog H n21 Try.f21 [.raw (Vp none)] [] Q =
  ((none : Option Addr).isNone = true ∧ Q [Vi (0 : Int)] []) := by kernel_rfl
end Go.Proofs.FlowVc

