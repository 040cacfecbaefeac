/- What the functions' texts ask (annotations written by tools/ann.lean, conditions by tools/ZVc.lean). -/
import Derived.Test.YtocloghnfnkchaaDoorOps
import Derived.KernelRfl
import Derived.Test.YtocloghnfnkchaaDoorProg
open Go Go.SL Go.Proofs
set_option maxRecDepth 100000
set_option linter.unusedVariables false
namespace Go.Proofs.SplitVc
/-- A packet. -/
structure Pk where
  tos : Int
  id : Int
  ttl : Int
  proto : Int
  df : Bool
  mf : Bool
  off : Int
  src : ByteArray
  dst : ByteArray
  opts : ByteArray
  A : Option Addr
  n : Nat
  c : Nat
abbrev Pk.cells (p : Pk) : List Value := [Vi p.tos, Vi p.id, Vi p.ttl, Vi p.proto, Vo p.df, Vo p.mf, Vi p.off, Vt p.src, Vt p.dst, Vt p.opts, Vs p.A p.n p.c]
abbrev Pk.val (p : Pk) : Value := .agg p.cells.toArray
-- 21 redoubt/ip4.within · params [73] · slots 27 · names [(0, l), (1, l), (3, i)]
def a21 : Ann :=
  { ord := [(4, [(0, .p), (1, .p), (2, .p), (3, .b), (4, .p), (5, .x), (6, .p), (7, .p), (8, .p), (9, .b), (10, .p), (11, .p), (12, .p), (13, .p), (14, .b), (15, .p), (16, .p)])],
    split := [],
    gen := [(3, 2)],
    names := [],
    loops := [(2, ⟨[(3, .one (.int .i64))], []⟩)] }
-- 15 redoubt/ip4.check · params [45] · slots 96 · names [(0, p), (1, p)]
def a15 : Ann :=
  { ord := [(1, [(0, .p), (1, .p), (2, .p), (3, .l 5 0 1), (4, .p), (5, .p), (6, .p), (7, .l 5 2 1), (8, .p), (9, .p), (10, .p), (11, .l 5 3 1), (12, .p), (13, .p), (14, .p), (15, .l 5 1 1), (16, .p), (17, .p), (18, .p), (19, .l 5 6 1), (20, .a 0), (21, .h), (22, .p), (23, .p), (24, .p), (25, .p), (26, .p), (27, .l 5 6 1), (28, .p), (29, .p), (30, .p), (31, .p)]),
      (7, [(0, .p), (1, .p), (2, .p), (3, .l 5 9 1), (4, .p), (5, .p), (6, .p), (7, .p), (8, .p), (9, .l 5 10 1), (10, .p), (11, .p), (12, .p), (13, .p)])],
    split := [],
    gen := [],
    names := [(24, 0), (37, 1), (56, 2), (76, 3), (94, 4)],
    loops := [] }

theorem vc15 (H : HOps) (b : Nat) (p : Pk) (Q : List Value → List Ch → Prop) :
  execFn Tryd.prog H a15 Tryd.f15 [.ptr 5 0] [.none, .none, .none, .none, .none, .blk b p.cells 24] Q =
  (∀ (b_1 : Nat), H.call (oB) 21 [Vs (some (Addr.mk b_1 0 none)) 10 10] [Ch.blk b_1 [Vi p.tos, Vi (255 : Int), Vi p.ttl, Vi (255 : Int), Vi p.proto, Vi (255 : Int), Vi p.id, Vi (65535 : Int), Vi p.off, Vi (65528 : Int)] 3, cN, cN, cN, cN, Ch.blk b [Vi p.tos, Vi p.id, Vi p.ttl, Vi p.proto, Vo p.df, Vo p.mf, Vi p.off, Vt p.src, Vt p.dst, Vt p.opts, Vs p.A p.n p.c] 24] [] fun (v : Bool) (y : PUnit) => ((!v || p.off.tmod (8 : Int) != (0 : Int)) = true → ∀ (b_2 : Nat), Q [Value.iface 56 (Vp (some (Addr.mk b_2 0 none)))] [Ch.blk b_1 [Vi p.tos, Vi (255 : Int), Vi p.ttl, Vi (255 : Int), Vi p.proto, Vi (255 : Int), Vi p.id, Vi (65535 : Int), Vi p.off, Vi (65528 : Int)] 3, Ch.blk b_2 [Vt (ByteArray.mk #[(97 : UInt8), (32 : UInt8), (110 : UInt8), (117 : UInt8), (109 : UInt8), (98 : UInt8), (101 : UInt8), (114 : UInt8)]), Value.iface 27 (Vi (1 : Int))] 58, cN, cN, cN, Ch.blk b [Vi p.tos, Vi p.id, Vi p.ttl, Vi p.proto, Vo p.df, Vo p.mf, Vi p.off, Vt p.src, Vt p.dst, Vt p.opts, Vs p.A p.n p.c] 24]) ∧ ((!v || p.off.tmod (8 : Int) != (0 : Int)) = false → (((↑p.src.size : Int) != (4 : Int) || (↑p.dst.size : Int) != (4 : Int)) = true → ∀ (b_2 : Nat), Q [Value.iface 56 (Vp (some (Addr.mk b_2 0 none)))] [Ch.blk b_1 [Vi p.tos, Vi (255 : Int), Vi p.ttl, Vi (255 : Int), Vi p.proto, Vi (255 : Int), Vi p.id, Vi (65535 : Int), Vi p.off, Vi (65528 : Int)] 3, cN, Ch.blk b_2 [Vt (ByteArray.mk #[(97 : UInt8), (110 : UInt8), (32 : UInt8), (97 : UInt8), (100 : UInt8), (100 : UInt8), (114 : UInt8), (101 : UInt8), (115 : UInt8), (115 : UInt8)]), Value.iface 27 (Vi (1 : Int))] 58, cN, cN, Ch.blk b [Vi p.tos, Vi p.id, Vi p.ttl, Vi p.proto, Vo p.df, Vo p.mf, Vi p.off, Vt p.src, Vt p.dst, Vt p.opts, Vs p.A p.n p.c] 24]) ∧ (((↑p.src.size : Int) != (4 : Int) || (↑p.dst.size : Int) != (4 : Int)) = false → (((↑p.opts.size : Int).tmod (4 : Int) != (0 : Int) || decide ((↑p.opts.size : Int) > (40 : Int))) = true → ∀ (b_2 : Nat), Q [Value.iface 56 (Vp (some (Addr.mk b_2 0 none)))] [Ch.blk b_1 [Vi p.tos, Vi (255 : Int), Vi p.ttl, Vi (255 : Int), Vi p.proto, Vi (255 : Int), Vi p.id, Vi (65535 : Int), Vi p.off, Vi (65528 : Int)] 3, cN, cN, Ch.blk b_2 [Vt (ByteArray.mk #[(111 : UInt8), (112 : UInt8), (116 : UInt8), (105 : UInt8), (111 : UInt8), (110 : UInt8), (115 : UInt8)]), Value.iface 27 (Vi (1 : Int))] 58, cN, Ch.blk b [Vi p.tos, Vi p.id, Vi p.ttl, Vi p.proto, Vo p.df, Vo p.mf, Vi p.off, Vt p.src, Vt p.dst, Vt p.opts, Vs p.A p.n p.c] 24]) ∧ (((↑p.opts.size : Int).tmod (4 : Int) != (0 : Int) || decide ((↑p.opts.size : Int) > (40 : Int))) = false → (decide (wr (wr ((20 : Int) + (↑p.opts.size : Int)) + (↑p.n : Int)) > (65535 : Int)) = true → ∀ (b_2 : Nat), Q [Value.iface 56 (Vp (some (Addr.mk b_2 0 none)))] [Ch.blk b_1 [Vi p.tos, Vi (255 : Int), Vi p.ttl, Vi (255 : Int), Vi p.proto, Vi (255 : Int), Vi p.id, Vi (65535 : Int), Vi p.off, Vi (65528 : Int)] 3, cN, cN, cN, Ch.blk b_2 [Vt (ByteArray.mk #[(100 : UInt8), (97 : UInt8), (116 : UInt8), (97 : UInt8)]), Value.iface 27 (Vi (2 : Int))] 58, Ch.blk b [Vi p.tos, Vi p.id, Vi p.ttl, Vi p.proto, Vo p.df, Vo p.mf, Vi p.off, Vt p.src, Vt p.dst, Vt p.opts, Vs p.A p.n p.c] 24]) ∧ (decide (wr (wr ((20 : Int) + (↑p.opts.size : Int)) + (↑p.n : Int)) > (65535 : Int)) = false → Q [Value.nilIface] [Ch.blk b_1 [Vi p.tos, Vi (255 : Int), Vi p.ttl, Vi (255 : Int), Vi p.proto, Vi (255 : Int), Vi p.id, Vi (65535 : Int), Vi p.off, Vi (65528 : Int)] 3, cN, cN, cN, cN, Ch.blk b [Vi p.tos, Vi p.id, Vi p.ttl, Vi p.proto, Vo p.df, Vo p.mf, Vi p.off, Vt p.src, Vt p.dst, Vt p.opts, Vs p.A p.n p.c] 24]))))) := by kernel_rfl
theorem vc21 (H : HOps) (A : Option Addr) (n c : Nat) (Q : List Value → List Ch → Prop) :
  execFn Tryd.prog H a21 Tryd.f21 [.raw (Vs A n c)] [] Q =
  (H.loop (Int × PUnit) [] [] ((0 : Int), pU) fun (x : Int × PUnit) (y : PUnit) (next : TupL (LF.mk [(3, TS.one (Sc.int IntKind.i64))] []).sl → List Ch → Prop) => (decide (x.fst < (↑n : Int)) = true → (A ≠ none ∧ (0 : Int) ≤ x.fst ∧ x.fst < (↑n : Int)) ∧ H.ldb (oI) (Instr.loadAt 3 (Vp (some ((oget A).add (Int.toNat x.fst * 1))))) fun (v : Int) => (decide (v < (0 : Int)) = true → Q [Vo false] []) ∧ (decide (v < (0 : Int)) = false → (A ≠ none ∧ (0 : Int) ≤ x.fst ∧ x.fst < (↑n : Int)) ∧ H.ldb (oI) (Instr.loadAt 3 (Vp (some ((oget A).add (Int.toNat x.fst * 1))))) fun (v : Int) => (A ≠ none ∧ (0 : Int) ≤ wr (x.fst + (1 : Int)) ∧ wr (x.fst + (1 : Int)) < (↑n : Int)) ∧ H.ldb (oI) (Instr.loadAt 3 (Vp (some ((oget A).add ((wr (x.fst + (1 : Int))).toNat * 1))))) fun (v_1 : Int) => (decide (v > v_1) = true → Q [Vo false] []) ∧ (decide (v > v_1) = false → ∀ (x_1 : Int), x_1 = wr (x.fst + (2 : Int)) → next (x_1, pU) []))) ∧ (decide (x.fst < (↑n : Int)) = false → Q [Vo true] [])) := by kernel_rfl
end Go.Proofs.SplitVc

