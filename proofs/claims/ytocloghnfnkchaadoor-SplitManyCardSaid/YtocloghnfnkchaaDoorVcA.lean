/- What the functions' texts ask (annotations written by tools/ann.lean, conditions by tools/ZVc.lean). -/
import Derived.Test.YtocloghnfnkchaaDoorOps
import Derived.KernelRfl
import Derived.Test.YtocloghnfnkchaaDoorProg
open Go Go.SL Go.Proofs
set_option maxRecDepth 100000
set_option linter.unusedVariables false
namespace Go.Proofs.SplitVc
/-- A packet. -/
structure Pk where
  tos : Int
  id : Int
  ttl : Int
  proto : Int
  df : Bool
  mf : Bool
  off : Int
  src : ByteArray
  dst : ByteArray
  opts : ByteArray
  A : Option Addr
  n : Nat
  c : Nat
abbrev Pk.cells (p : Pk) : List Value := [Vi p.tos, Vi p.id, Vi p.ttl, Vi p.proto, Vo p.df, Vo p.mf, Vi p.off, Vt p.src, Vt p.dst, Vt p.opts, Vs p.A p.n p.c]
abbrev Pk.val (p : Pk) : Value := .agg p.cells.toArray
-- 7 redoubt/split.Split · params [24, 3] · slots 52 · names [(0, p), (1, mtu), (2, p), (3, mtu), (6, e), (7, later)]
def a7 : Ann :=
  { ord := [],
    split := [],
    gen := [],
    names := [(2, 0), (33, 1)],
    loops := [] }
-- 8 redoubt/redoubtlaw19.awake · params [] · slots 67 · names [(1, l), (2, e), (3, s), (4, f)]
def a8 : Ann :=
  { ord := [],
    split := [(3, 7), (3, 15), (3, 21), (3, 28), (3, 36)],
    gen := [],
    names := [],
    loops := [] }
-- 11 redoubt/ip4.Check · params [24] · slots 5 · names [(0, p), (1, p)]
def a11 : Ann :=
  { ord := [],
    split := [],
    gen := [],
    names := [(1, 0)],
    loops := [] }
-- 12 slices.Clone[[]byte,byte] · params [22] · slots 8 · names [(0, s), (1, s)]
def a12 : Ann :=
  { ord := [],
    split := [],
    gen := [],
    names := [(5, 0)],
    loops := [] }
-- 13 redoubt/split.Later · params [9] · slots 49 · names [(0, options), (1, options), (4, l), (5, e), (6, out), (7, _), (8, o)]
def a13 : Ann :=
  { ord := [(9, [(0, .p), (1, .p), (2, .l 0 0 1), (3, .p), (4, .p), (5, .l 0 1 1), (6, .p), (7, .p), (8, .p), (11, .p), (12, .l 0 1 1), (9, .a 1), (10, .h), (13, .h), (14, .p)]),
      (11, [(0, .p), (1, .r [2]), (2, .p), (3, .p), (4, .p), (5, .p), (6, .h), (7, .p), (8, .p), (9, .p)])],
    split := [],
    gen := [],
    names := [(8, 0), (35, 1)],
    loops := [(6, ⟨[(6, .one (.slc)), (19, .one (.int .i64))], [(0, .gone), (1, .gone)]⟩)] }
-- 14 redoubt/split.pieces · params [24, 3, 9, 26] · slots 70 · names [(0, p), (1, mtu), (2, later), (3, out), (4, p), (5, mtu), (6, later), (7, out), (10, room), (11, n), (12, first), (13, rest)]
def a14 : Ann :=
  { ord := [(8, [(0, .l 0 0 11), (1, .l 0 0 11), (2, .a 2), (3, .a 3), (4, .s 2 0 11), (5, .s 3 0 11)]),
      (10, [(0, .p), (1, .l 0 6 1), (2, .p), (3, .p), (4, .p), (5, .p), (6, .l 0 10 1), (7, .p), (8, .p), (9, .p), (10, .s 3 6 1), (11, .p), (12, .s 3 9 1), (13, .p), (14, .s 3 10 1)]),
      (11, [(0, .l 3 0 11), (1, .p), (2, .p), (3, .p), (4, .l 2 0 11), (5, .a 4), (6, .h), (7, .h), (8, .p), (9, .p), (10, .p), (11, .p)])],
    split := [],
    gen := [(3, 6), (7, 3)],
    names := [(4, 0), (34, 1), (12, 2), (13, 3), (65, 4)],
    loops := [] }
-- 16 redoubt/ip4.number · params [43] · slots 8 · names [(0, e), (1, e), (3, n)]
def a16 : Ann :=
  { ord := [],
    split := [],
    gen := [],
    names := [(3, 0)],
    loops := [] }
-- 19 redoubt/ip4.Options · params [9] · slots 54 · names [(0, s), (1, s), (4, out)]
def a19 : Ann :=
  { ord := [(8, [(0, .p), (1, .p), (2, .p), (3, .p), (4, .p), (5, .p), (6, .p), (7, .p), (8, .p), (9, .a 1), (10, .h), (11, .p)])],
    split := [],
    gen := [],
    names := [(18, 0), (47, 1)],
    loops := [(2, ⟨[(4, .one (.slc)), (0, .one (.str))], [(0, .gone), (1, .gone)]⟩)] }
-- 21 redoubt/ip4.within · params [73] · slots 27 · names [(0, l), (1, l), (3, i)]
def a21 : Ann :=
  { ord := [(4, [(0, .p), (1, .p), (2, .p), (3, .b), (4, .p), (5, .x), (6, .p), (7, .p), (8, .p), (9, .b), (10, .p), (11, .p), (12, .p), (13, .p), (14, .b), (15, .p), (16, .p)])],
    split := [],
    gen := [(3, 2)],
    names := [],
    loops := [(2, ⟨[(3, .one (.int .i64))], []⟩)] }
-- 22 errors.As · params [43, 20] · slots 42 · names [(0, err), (1, target), (2, err), (3, target), (5, val), (6, typ), (7, targetType)]
def a22 : Ann :=
  { ord := [],
    split := [(7, 3), (10, 3)],
    gen := [],
    names := [(5, 0)],
    loops := [] }
-- 24 math/bits.Mul · params [61, 61] · slots 30 · names [(0, x), (1, y), (2, x), (3, y), (4, hi), (5, lo), (6, h), (7, l), (8, h), (9, l)]
def a24 : Ann :=
  { ord := [],
    split := [],
    gen := [(2, 4), (2, 5)],
    names := [],
    loops := [] }
-- 25 strings.HasPrefix · params [9, 9] · slots 8 · names [(0, s), (1, prefix), (2, s), (3, prefix)]
def a25 : Ann :=
  { ord := [],
    split := [],
    gen := [],
    names := [],
    loops := [] }
-- 26 (*strings.Builder).Grow · params [65, 3] · slots 25 · names [(0, b), (1, n), (2, b), (3, n)]
def a26 : Ann :=
  { ord := [(3, [(0, .p), (1, .p), (2, .p), (3, .b), (4, .p), (5, .p), (6, .p), (7, .p), (8, .b), (9, .p), (10, .p), (11, .p), (12, .p)])],
    split := [],
    gen := [],
    names := [],
    loops := [] }
-- 27 (*strings.Builder).WriteString · params [65, 9] · slots 19 · names [(0, b), (1, s), (2, b), (3, s)]
def a27 : Ann :=
  { ord := [],
    split := [],
    gen := [],
    names := [],
    loops := [] }
-- 28 (*strings.Builder).Len · params [65] · slots 8 · names [(0, b), (1, b)]
def a28 : Ann :=
  { ord := [],
    split := [],
    gen := [],
    names := [],
    loops := [] }
-- 29 (*strings.Builder).String · params [65] · slots 14 · names [(0, b), (1, b)]
def a29 : Ann :=
  { ord := [(1, [(0, .p), (1, .p), (2, .p), (3, .b), (5, .p), (6, .p), (7, .p), (8, .b), (9, .p), (4, .h), (10, .h), (11, .p)])],
    split := [],
    gen := [],
    names := [],
    loops := [] }
-- 34 redoubt/inet.Add · params [3, 3] · slots 16 · names [(0, a), (1, b), (2, a), (3, b), (5, n)]
def a34 : Ann :=
  { ord := [],
    split := [],
    gen := [(1, 5)],
    names := [],
    loops := [] }
-- 35 redoubt/inet.word · params [22] · slots 22 · names [(0, b), (1, b), (3, n)]
def a35 : Ann :=
  { ord := [],
    split := [],
    gen := [(5, 4), (6, 7)],
    names := [],
    loops := [] }
-- 36 math/bits.Mul32 · params [87, 87] · slots 17 · names [(0, x), (1, y), (2, x), (3, y), (4, hi), (5, lo), (6, tmp)]
def a36 : Ann :=
  { ord := [],
    split := [],
    gen := [(1, 5), (2, 5), (2, 6)],
    names := [],
    loops := [] }
-- 37 math/bits.Mul64 · params [90, 90] · slots 51 · names [(0, x), (1, y), (2, x), (3, y), (4, hi), (5, lo), (6, x0), (7, x1), (8, y0), (9, y1), (10, w0), (11, t), (12, w1), (13, w2)]
def a37 : Ann :=
  { ord := [],
    split := [],
    gen := [(1, 2), (2, 2), (3, 2), (4, 2), (5, 3), (6, 6), (7, 2), (8, 2), (9, 5), (10, 8), (11, 3)],
    names := [],
    loops := [] }
-- 38 internal/stringslite.HasPrefix · params [9, 9] · slots 18 · names [(0, s), (1, prefix), (2, s), (3, prefix)]
def a38 : Ann :=
  { ord := [],
    split := [],
    gen := [],
    names := [],
    loops := [] }
-- 39 (*strings.Builder).copyCheck · params [65] · slots 20 · names [(0, b), (1, b)]
def a39 : Ann :=
  { ord := [],
    split := [],
    gen := [],
    names := [],
    loops := [] }
-- 40 (*strings.Builder).grow · params [65, 3] · slots 30 · names [(0, b), (1, n), (2, b), (3, n), (4, buf)]
def a40 : Ann :=
  { ord := [(0, [(0, .p), (1, .p), (2, .p), (3, .b), (4, .p), (5, .p), (6, .p), (7, .p), (9, .p), (10, .p), (11, .p), (12, .b), (13, .p), (8, .h), (14, .p), (15, .p)])],
    split := [],
    gen := [],
    names := [],
    loops := [] }
-- 65 (*redoubt/ip4.fault).Unwrap · params [56] · slots 7 · names [(0, f), (1, f)]
def a65 : Ann :=
  { ord := [],
    split := [],
    gen := [],
    names := [],
    loops := [] }
-- 33 errors.as · params [43, 20, 77, 80] · slots 62 · names [(0, err), (1, target), (2, targetVal), (3, targetType), (4, err), (5, target), (6, targetVal), (7, targetType), (9, x), (10, ok), (11, x), (12, x), (13, _), (14, err), (15, x)]
def a33 : Ann :=
  { ord := [],
    split := [(5, 1)],
    gen := [],
    names := [(6, 0)],
    loops := [(1, ⟨[(0, .one (.any))], []⟩),
      (18, ⟨[(50, .one (.int .i64))], []⟩)] }
-- 15 redoubt/ip4.check · params [45] · slots 96 · names [(0, p), (1, p)]
def a15 : Ann :=
  { ord := [(1, [(0, .p), (1, .p), (2, .p), (3, .l 5 0 1), (4, .p), (5, .p), (6, .p), (7, .l 5 2 1), (8, .p), (9, .p), (10, .p), (11, .l 5 3 1), (12, .p), (13, .p), (14, .p), (15, .l 5 1 1), (16, .p), (17, .p), (18, .p), (19, .l 5 6 1), (20, .a 0), (21, .h), (22, .p), (23, .p), (24, .p), (25, .p), (26, .p), (27, .l 5 6 1), (28, .p), (29, .p), (30, .p), (31, .p)]),
      (7, [(0, .p), (1, .p), (2, .p), (3, .l 5 9 1), (4, .p), (5, .p), (6, .p), (7, .p), (8, .p), (9, .l 5 10 1), (10, .p), (11, .p), (12, .p), (13, .p)])],
    split := [],
    gen := [],
    names := [(24, 0), (37, 1), (56, 2), (76, 3), (94, 4)],
    loops := [] }
-- 4 redoubt/redoubtlaw19.SplitMany · params [3, 3] · slots 72 · names [(0, n), (1, mtu), (2, n), (3, mtu), (5, l), (6, e), (7, room), (8, full), (9, want), (10, left), (11, i)]
def a4 : Ann :=
  { ord := [],
    split := [],
    gen := [(6, 2), (7, 3), (12, 2), (11, 3), (15, 2)],
    names := [],
    loops := [(10, ⟨[(9, .one (.int .i64)), (10, .one (.int .i64))], []⟩),
      (14, ⟨[(11, .one (.int .i64))], []⟩)] }

theorem vc4 (H : HOps) (n mtu : Int) (Q : List Value → List Ch → Prop) :
  execFn Tryd.prog H a4 Tryd.f4 [.raw (Vi n), .raw (Vi mtu)] [.none, .none] Q =
  ((pickB (Operand.const (Vo true)) (Operand.tmp 24) (pickB (Operand.const (Vo true)) (Operand.tmp 20) (pickB (Operand.const (Vo true)) (Operand.tmp 16) (decide (n < (0 : Int))) true (decide (n > (5000 : Int)))) true (decide (mtu < (68 : Int)))) true (decide (mtu > (6000 : Int))) = true → Q [Vo true] [cN, cN]) ∧ (pickB (Operand.const (Vo true)) (Operand.tmp 24) (pickB (Operand.const (Vo true)) (Operand.tmp 20) (pickB (Operand.const (Vo true)) (Operand.tmp 16) (decide (n < (0 : Int))) true (decide (n > (5000 : Int)))) true (decide (mtu < (68 : Int)))) true (decide (mtu > (6000 : Int))) = false → H.v (oS) (Instr.makeSlice 22 (Vi n) (Vi n)) [cN, cN] [] fun (v : Option Addr × Nat × Nat) (y : PUnit) => H.call (OS.tup [TS.one Sc.slc, TS.one (Sc.int IntKind.i64)]) 7 [Value.agg (Array.mk [Vi (0 : Int), Vi (0 : Int), Vi (0 : Int), Vi (0 : Int), Vo false, Vo false, Vi (0 : Int), Vt (ByteArray.mk #[(97 : UInt8), (98 : UInt8), (99 : UInt8), (100 : UInt8)]), Vt (ByteArray.mk #[(101 : UInt8), (102 : UInt8), (103 : UInt8), (104 : UInt8)]), Vt (ByteArray.mk #[]), Vs v.fst v.snd.fst v.snd.snd]), Vi mtu] [cN, cN] [] fun (v : (Option Addr × Nat × Nat) × Int × PUnit) (y : PUnit) => ((v.snd.fst != (0 : Int)) = true → Q [Vo false] [cN, cN]) ∧ ((v.snd.fst != (0 : Int)) = false → ∀ (x : Int), x = wr (mtu - (20 : Int)) → ∀ (x_1 : Int), x_1 = wr (wr (x.tdiv (8 : Int)) * (8 : Int)) → H.loop (Int × Int × PUnit) [cN, cN] [] ((1 : Int), n, pU) fun (x_2 : Int × Int × PUnit) (y : PUnit) (next : TupL (LF.mk [(9, TS.one (Sc.int IntKind.i64)), (10, TS.one (Sc.int IntKind.i64))] []).sl → List Ch → Prop) => (decide (x_2.snd.fst > x) = true → ∀ (x : Int), x = wr (x_2.fst + (1 : Int)) → ∀ (x_3 : Int), x_3 = wr (x_2.snd.fst - x_1) → next (x, x_3, pU) [cN, cN]) ∧ (decide (x_2.snd.fst > x) = false → H.loop (Int × PUnit) [cN, cN] [] ((0 : Int), pU) fun (x : Int × PUnit) (y : PUnit) (next : TupL (LF.mk [(11, TS.one (Sc.int IntKind.i64))] []).sl → List Ch → Prop) => (decide (wr (x.fst + (1 : Int)) < (↑v.fst.snd.fst : Int)) = true → (v.fst.fst ≠ none ∧ (0 : Int) ≤ x.fst ∧ x.fst < (↑v.fst.snd.fst : Int)) ∧ H.ld (oS) (Instr.loadAt 22 (Vp (some (Addr.mk ((oget v.fst.fst).add (Int.toNat x.fst * 11)).block (((oget v.fst.fst).add (Int.toNat x.fst * 11)).off + 10) none)))) [cN, cN] fun (v : Option Addr × Nat × Nat) => (((↑v.snd.fst : Int) != x_1) = true → Q [Vo false] [cN, cN]) ∧ (((↑v.snd.fst : Int) != x_1) = false → ∀ (x_3 : Int), x_3 = wr (x.fst + (1 : Int)) → next (x_3, pU) [cN, cN])) ∧ (decide (wr (x.fst + (1 : Int)) < (↑v.fst.snd.fst : Int)) = false → H.call (oB) 8 [] [cN, cN] [] fun (v_1 : Bool) (y : PUnit) => Q [Vo (pickB (Operand.tmp 70) (Operand.const (Vo false)) v_1 ((↑v.fst.snd.fst : Int) == x_2.fst) false)] [cN, cN]))))) := by kernel_rfl
theorem vc7 (H : HOps) (p : Pk) (mtu : Int) (Q : List Value → List Ch → Prop) :
  execFn Tryd.prog H a7 Tryd.f7 [.raw p.val, .raw (Vi mtu)] [.none, .none, .none] Q =
  (∀ (b : Nat), H.call (oI) 11 [Value.agg (Array.mk [Vi p.tos, Vi p.id, Vi p.ttl, Vi p.proto, Vo p.df, Vo p.mf, Vi p.off, Vt p.src, Vt p.dst, Vt p.opts, Vs p.A p.n p.c])] [Ch.blk b [Vi p.tos, Vi p.id, Vi p.ttl, Vi p.proto, Vo p.df, Vo p.mf, Vi p.off, Vt p.src, Vt p.dst, Vt p.opts, Vs p.A p.n p.c] 24, cN, cN] [] fun (v : Int) (y : PUnit) => ((v != (0 : Int)) = true → Q [Vs none 0 0, Vi v] [Ch.blk b [Vi p.tos, Vi p.id, Vi p.ttl, Vi p.proto, Vo p.df, Vo p.mf, Vi p.off, Vt p.src, Vt p.dst, Vt p.opts, Vs p.A p.n p.c] 24, cN, cN]) ∧ ((v != (0 : Int)) = false → (decide (mtu < (68 : Int)) = true → Q [Vs none 0 0, Vi (1 : Int)] [Ch.blk b [Vi p.tos, Vi p.id, Vi p.ttl, Vi p.proto, Vo p.df, Vo p.mf, Vi p.off, Vt p.src, Vt p.dst, Vt p.opts, Vs p.A p.n p.c] 24, cN, cN]) ∧ (decide (mtu < (68 : Int)) = false → (decide (wr (wr ((20 : Int) + (↑p.opts.size : Int)) + (↑p.n : Int)) ≤ mtu) = true → H.call (oS) 12 [Vs p.A p.n p.c] [Ch.blk b [Vi p.tos, Vi p.id, Vi p.ttl, Vi p.proto, Vo p.df, Vo p.mf, Vi p.off, Vt p.src, Vt p.dst, Vt p.opts, Vs p.A p.n p.c] 24, cN, cN] [] fun (v : Option Addr × Nat × Nat) (y : PUnit) => ∀ (b_1 : Nat), Q [Vs (some (Addr.mk b_1 0 none)) 1 1, Vi (0 : Int)] [Ch.blk b [Vi p.tos, Vi p.id, Vi p.ttl, Vi p.proto, Vo p.df, Vo p.mf, Vi p.off, Vt p.src, Vt p.dst, Vt p.opts, Vs v.fst v.snd.fst v.snd.snd] 24, Ch.blk b_1 [Vi p.tos, Vi p.id, Vi p.ttl, Vi p.proto, Vo p.df, Vo p.mf, Vi p.off, Vt p.src, Vt p.dst, Vt p.opts, Vs v.fst v.snd.fst v.snd.snd] 24, cN]) ∧ (decide (wr (wr ((20 : Int) + (↑p.opts.size : Int)) + (↑p.n : Int)) ≤ mtu) = false → (p.df = true → Q [Vs none 0 0, Vi (181 : Int)] [Ch.blk b [Vi p.tos, Vi p.id, Vi p.ttl, Vi p.proto, Vo p.df, Vo p.mf, Vi p.off, Vt p.src, Vt p.dst, Vt p.opts, Vs p.A p.n p.c] 24, cN, cN]) ∧ (p.df = false → H.call (OS.tup [TS.one Sc.str, TS.one (Sc.int IntKind.i64)]) 13 [Vt p.opts] [Ch.blk b [Vi p.tos, Vi p.id, Vi p.ttl, Vi p.proto, Vo p.df, Vo p.mf, Vi p.off, Vt p.src, Vt p.dst, Vt p.opts, Vs p.A p.n p.c] 24, cN, cN] [] fun (v : ByteArray × Int × PUnit) (y : PUnit) => ((v.snd.fst != (0 : Int)) = true → Q [Vs none 0 0, Vi v.snd.fst] [Ch.blk b [Vi p.tos, Vi p.id, Vi p.ttl, Vi p.proto, Vo p.df, Vo p.mf, Vi p.off, Vt p.src, Vt p.dst, Vt p.opts, Vs p.A p.n p.c] 24, cN, cN]) ∧ ((v.snd.fst != (0 : Int)) = false → H.call (OS.tup [TS.one Sc.slc, TS.one (Sc.int IntKind.i64)]) 14 [Value.agg (Array.mk [Vi p.tos, Vi p.id, Vi p.ttl, Vi p.proto, Vo p.df, Vo p.mf, Vi p.off, Vt p.src, Vt p.dst, Vt p.opts, Vs p.A p.n p.c]), Vi mtu, Vt v.fst, Vs none 0 0] [Ch.blk b [Vi p.tos, Vi p.id, Vi p.ttl, Vi p.proto, Vo p.df, Vo p.mf, Vi p.off, Vt p.src, Vt p.dst, Vt p.opts, Vs p.A p.n p.c] 24, cN, cN] [] fun (v : (Option Addr × Nat × Nat) × Int × PUnit) (y : PUnit) => Q [Vs v.fst.fst v.fst.snd.fst v.fst.snd.snd, Vi v.snd.fst] [Ch.blk b [Vi p.tos, Vi p.id, Vi p.ttl, Vi p.proto, Vo p.df, Vo p.mf, Vi p.off, Vt p.src, Vt p.dst, Vt p.opts, Vs p.A p.n p.c] 24, cN, cN])))))) := by kernel_rfl
theorem vc8 (H : HOps) (Q : List Value → List Ch → Prop) :
  execFn Tryd.prog H a8 Tryd.f8 [] [.none, .none] Q =
  (H.v (oS) (Instr.makeSlice 22 (Vi (1480 : Int)) (Vi (1480 : Int))) [cN, cN] [] fun (v : Option Addr × Nat × Nat) (y : PUnit) => H.call (OS.tup [TS.one Sc.slc, TS.one (Sc.int IntKind.i64)]) 7 [Value.agg (Array.mk [Vi (0 : Int), Vi (0 : Int), Vi (0 : Int), Vi (0 : Int), Vo false, Vo false, Vi (0 : Int), Vt (ByteArray.mk #[(97 : UInt8), (98 : UInt8), (99 : UInt8), (100 : UInt8)]), Vt (ByteArray.mk #[(101 : UInt8), (102 : UInt8), (103 : UInt8), (104 : UInt8)]), Vt (ByteArray.mk #[]), Vs v.fst v.snd.fst v.snd.snd]), Vi (820 : Int)] [cN, cN] [] fun (v : (Option Addr × Nat × Nat) × Int × PUnit) (y : PUnit) => H.call (OS.tup [TS.one Sc.str, TS.one (Sc.int IntKind.i64)]) 13 [Vt (ByteArray.mk #[(7 : UInt8), (3 : UInt8), (4 : UInt8), (148 : UInt8), (4 : UInt8), (0 : UInt8), (0 : UInt8), (0 : UInt8)])] [cN, cN] [] fun (v_1 : ByteArray × Int × PUnit) (y : PUnit) => (pickB (Operand.tmp 20) (Operand.const (Vo false)) ((↑v.fst.snd.fst : Int) == (2 : Int)) (v.snd.fst == (0 : Int)) false = true → (v.fst.fst ≠ none ∧ (0 : Int) ≤ (0 : Int) ∧ (0 : Int) < (↑v.fst.snd.fst : Int)) ∧ H.ld (oS) (Instr.loadAt 22 (Vp (some (Addr.mk ((oget v.fst.fst).add 0).block (((oget v.fst.fst).add 0).off + 10) none)))) [cN, cN] fun (v_2 : Option Addr × Nat × Nat) => (((↑v_2.snd.fst : Int) == (800 : Int)) = true → (v.fst.fst ≠ none ∧ (0 : Int) ≤ (0 : Int) ∧ (0 : Int) < (↑v.fst.snd.fst : Int)) ∧ H.ld (oB) (Instr.loadAt 4 (Vp (some (Addr.mk ((oget v.fst.fst).add 0).block (((oget v.fst.fst).add 0).off + 5) none)))) [cN, cN] fun (v_3 : Bool) => (v_3 = true → (v.fst.fst ≠ none ∧ (0 : Int) ≤ (1 : Int) ∧ (1 : Int) < (↑v.fst.snd.fst : Int)) ∧ H.ld (oI) (Instr.loadAt 3 (Vp (some (Addr.mk ((oget v.fst.fst).add 11).block (((oget v.fst.fst).add 11).off + 6) none)))) [cN, cN] fun (v_4 : Int) => ((v_4 == (800 : Int)) = true → (v.fst.fst ≠ none ∧ (0 : Int) ≤ (1 : Int) ∧ (1 : Int) < (↑v.fst.snd.fst : Int)) ∧ H.ld (oS) (Instr.loadAt 22 (Vp (some (Addr.mk ((oget v.fst.fst).add 11).block (((oget v.fst.fst).add 11).off + 10) none)))) [cN, cN] fun (v_5 : Option Addr × Nat × Nat) => (((↑v_5.snd.fst : Int) == (680 : Int)) = true → (v.fst.fst ≠ none ∧ (0 : Int) ≤ (1 : Int) ∧ (1 : Int) < (↑v.fst.snd.fst : Int)) ∧ H.ld (oB) (Instr.loadAt 4 (Vp (some (Addr.mk ((oget v.fst.fst).add 11).block (((oget v.fst.fst).add 11).off + 5) none)))) [cN, cN] fun (v_6 : Bool) => Q [Vo (pickB (Operand.tmp 65) (Operand.const (Vo false)) (pickB (Operand.tmp 60) (Operand.const (Vo false)) (!v_6) (ByteArray.toList v_1.fst == (ByteArray.mk #[(148 : UInt8), (4 : UInt8), (0 : UInt8), (0 : UInt8)]).toList) false) (v_1.snd.fst == v.snd.fst) false)] [cN, cN]) ∧ (((↑v_5.snd.fst : Int) == (680 : Int)) = false → Q [Vo false] [cN, cN])) ∧ ((v_4 == (800 : Int)) = false → False)) ∧ (v_3 = false → False)) ∧ (((↑v_2.snd.fst : Int) == (800 : Int)) = false → False)) ∧ (pickB (Operand.tmp 20) (Operand.const (Vo false)) ((↑v.fst.snd.fst : Int) == (2 : Int)) (v.snd.fst == (0 : Int)) false = false → False)) := by kernel_rfl
theorem vc11 (H : HOps) (p : Pk) (Q : List Value → List Ch → Prop) :
  execFn Tryd.prog H a11 Tryd.f11 [.raw p.val] [.none] Q =
  (∀ (b : Nat), H.call (OS.one (TS.one Sc.any)) 15 [Vp (some (Addr.mk b 0 none))] [Ch.blk b [Vi p.tos, Vi p.id, Vi p.ttl, Vi p.proto, Vo p.df, Vo p.mf, Vi p.off, Vt p.src, Vt p.dst, Vt p.opts, Vs p.A p.n p.c] 24] [] fun (v : Value) (y : PUnit) => H.call (oI) 16 [v] [Ch.blk b [Vi p.tos, Vi p.id, Vi p.ttl, Vi p.proto, Vo p.df, Vo p.mf, Vi p.off, Vt p.src, Vt p.dst, Vt p.opts, Vs p.A p.n p.c] 24] [] fun (v : Int) (y : PUnit) => Q [Vi v] [Ch.blk b [Vi p.tos, Vi p.id, Vi p.ttl, Vi p.proto, Vo p.df, Vo p.mf, Vi p.off, Vt p.src, Vt p.dst, Vt p.opts, Vs p.A p.n p.c] 24]) := by kernel_rfl
theorem vc12 (H : HOps) (A : Option Addr) (n c : Nat) (Q : List Value → List Ch → Prop) :
  execFn Tryd.prog H a12 Tryd.f12 [.raw (Vs A n c)] [.none, .none] Q =
  ((A.isNone = true → Q [Vs none 0 0] [cN, cN]) ∧ (A.isNone = false → ∀ (b : Nat), H.v (oS) (Builtin.append_ (Array.mk [22, 22]) 22 (Array.mk [Vs (some (Addr.mk b 0 none)) 0 0, Vs A n c])) [Ch.blk b [] 5, cN] [] fun (v : Option Addr × Nat × Nat) (y : PUnit) => Q [Vs v.fst v.snd.fst v.snd.snd] [Ch.blk b [] 5, cN])) := by kernel_rfl
theorem vc13 (H : HOps) (s : ByteArray) (Q : List Value → List Ch → Prop) :
  execFn Tryd.prog H a13 Tryd.f13 [.raw (Vt s)] [.none, .none, .none, .none] Q =
  (H.call (OS.tup [TS.one Sc.slc, TS.one (Sc.int IntKind.i64)]) 19 [Vt s] [cN, cN, cN, cN] [] fun (v : (Option Addr × Nat × Nat) × Int × PUnit) (y : PUnit) => ((v.snd.fst != (0 : Int)) = true → Q [Vt (ByteArray.mk #[]), Vi v.snd.fst] [cN, cN, cN, cN]) ∧ ((v.snd.fst != (0 : Int)) = false → H.loop ((Option Addr × Nat × Nat) × Int × PUnit) [cN, cN, cN, cN] [(0, CF.gone), (1, CF.gone)] ((none, 0, 0), (0 : Int), pU) fun (x : (Option Addr × Nat × Nat) × Int × PUnit) (y : PUnit × PUnit × PUnit) (next : TupL (LF.mk [(6, TS.one Sc.slc), (19, TS.one (Sc.int IntKind.i64))] [(0, CF.gone), (1, CF.gone)]).sl → List Ch → Prop) => (decide (x.snd.fst < (↑v.fst.snd.fst : Int)) = true → (v.fst.fst ≠ none ∧ (0 : Int) ≤ x.snd.fst ∧ x.snd.fst < (↑v.fst.snd.fst : Int)) ∧ H.ld (OS.one (TS.agg [Sc.int IntKind.i64, Sc.str])) (Instr.loadAt 53 (Vp (some ((oget v.fst.fst).add (Int.toNat x.snd.fst * 2))))) [cN, cN, cN, cN] fun (v : Int × ByteArray × PUnit) => ∀ (b : Nat), (decide (v.fst ≥ (128 : Int)) = true → ∀ (b_1 : Nat), H.v (oS) (Builtin.append_ (Array.mk [22, 22]) 22 (Array.mk [Vs x.fst.fst x.fst.snd.fst x.fst.snd.snd, Vs (some (Addr.mk b_1 0 none)) 2 2])) [Ch.blk b [Vi v.fst, Vt v.snd.fst] 53, Ch.blk b_1 [Vb (IntKind.u8.wrap v.fst), Vb (IntKind.u8.wrap (wr ((↑(ByteArray.size v.snd.fst) : Int) + (2 : Int))))] 5, cN, cN] [] fun (v_1 : Option Addr × Nat × Nat) (y : PUnit) => H.v (oS) (Builtin.append_ (Array.mk [22, 9]) 22 (Array.mk [Vs v_1.fst v_1.snd.fst v_1.snd.snd, Vt v.snd.fst])) [Ch.blk b [Vi v.fst, Vt v.snd.fst] 53, Ch.blk b_1 [Vb (IntKind.u8.wrap v.fst), Vb (IntKind.u8.wrap (wr ((↑(ByteArray.size v.snd.fst) : Int) + (2 : Int))))] 5, cN, cN] [] fun (v_2 : Option Addr × Nat × Nat) (y : PUnit) => next ((v_2.fst, v_2.snd.fst, v_2.snd.snd), wr (x.snd.fst + (1 : Int)), pU) [Ch.blk b [Vi v.fst, Vt v.snd.fst] 53, Ch.blk b_1 [Vb (IntKind.u8.wrap v.fst), Vb (IntKind.u8.wrap (wr ((↑(ByteArray.size v.snd.fst) : Int) + (2 : Int))))] 5, cN, cN]) ∧ (decide (v.fst ≥ (128 : Int)) = false → next ((x.fst.fst, x.fst.snd.fst, x.fst.snd.snd), wr (x.snd.fst + (1 : Int)), pU) [Ch.blk b [Vi v.fst, Vt v.snd.fst] 53, cN, cN, cN])) ∧ (decide (x.snd.fst < (↑v.fst.snd.fst : Int)) = false → H.ld (oT) (convert 22 9 (Vs x.fst.fst x.fst.snd.fst x.fst.snd.snd)) [cN, cN, cN, cN] fun (v : ByteArray) => H.call (oT) 20 [Vt (ByteArray.mk #[(0 : UInt8)]), Vi (wr (↑(BitVec.ofInt 64 (wr ((0 : Int) - (↑x.fst.snd.fst : Int))) &&& BitVec.ofInt 64 (3 : Int)).toNat : Int))] [cN, cN, cN, cN] [] fun (v_1 : ByteArray) (y : PUnit) => ((↑(v.size + v_1.size) : Int) > IntKind.i64.max → False) ∧ Q [Vt (v ++ v_1), Vi (0 : Int)] [cN, cN, cN, cN]))) := by kernel_rfl
theorem vc15 (H : HOps) (b : Nat) (p : Pk) (Q : List Value → List Ch → Prop) :
  execFn Tryd.prog H a15 Tryd.f15 [.ptr 5 0] [.none, .none, .none, .none, .none, .blk b p.cells 24] Q =
  (∀ (b_1 : Nat), H.call (oB) 21 [Vs (some (Addr.mk b_1 0 none)) 10 10] [Ch.blk b_1 [Vi p.tos, Vi (255 : Int), Vi p.ttl, Vi (255 : Int), Vi p.proto, Vi (255 : Int), Vi p.id, Vi (65535 : Int), Vi p.off, Vi (65528 : Int)] 3, cN, cN, cN, cN, Ch.blk b [Vi p.tos, Vi p.id, Vi p.ttl, Vi p.proto, Vo p.df, Vo p.mf, Vi p.off, Vt p.src, Vt p.dst, Vt p.opts, Vs p.A p.n p.c] 24] [] fun (v : Bool) (y : PUnit) => (pickB (Operand.const (Vo true)) (Operand.tmp 33) (!v) true (p.off.tmod (8 : Int) != (0 : Int)) = true → ∀ (b_2 : Nat), Q [Value.iface 56 (Vp (some (Addr.mk b_2 0 none)))] [Ch.blk b_1 [Vi p.tos, Vi (255 : Int), Vi p.ttl, Vi (255 : Int), Vi p.proto, Vi (255 : Int), Vi p.id, Vi (65535 : Int), Vi p.off, Vi (65528 : Int)] 3, Ch.blk b_2 [Vt (ByteArray.mk #[(97 : UInt8), (32 : UInt8), (110 : UInt8), (117 : UInt8), (109 : UInt8), (98 : UInt8), (101 : UInt8), (114 : UInt8)]), Value.iface 27 (Vi (1 : Int))] 58, cN, cN, cN, Ch.blk b [Vi p.tos, Vi p.id, Vi p.ttl, Vi p.proto, Vo p.df, Vo p.mf, Vi p.off, Vt p.src, Vt p.dst, Vt p.opts, Vs p.A p.n p.c] 24]) ∧ (pickB (Operand.const (Vo true)) (Operand.tmp 33) (!v) true (p.off.tmod (8 : Int) != (0 : Int)) = false → (pickB (Operand.const (Vo true)) (Operand.tmp 52) ((↑p.src.size : Int) != (4 : Int)) true ((↑p.dst.size : Int) != (4 : Int)) = true → ∀ (b_2 : Nat), Q [Value.iface 56 (Vp (some (Addr.mk b_2 0 none)))] [Ch.blk b_1 [Vi p.tos, Vi (255 : Int), Vi p.ttl, Vi (255 : Int), Vi p.proto, Vi (255 : Int), Vi p.id, Vi (65535 : Int), Vi p.off, Vi (65528 : Int)] 3, cN, Ch.blk b_2 [Vt (ByteArray.mk #[(97 : UInt8), (110 : UInt8), (32 : UInt8), (97 : UInt8), (100 : UInt8), (100 : UInt8), (114 : UInt8), (101 : UInt8), (115 : UInt8), (115 : UInt8)]), Value.iface 27 (Vi (1 : Int))] 58, cN, cN, Ch.blk b [Vi p.tos, Vi p.id, Vi p.ttl, Vi p.proto, Vo p.df, Vo p.mf, Vi p.off, Vt p.src, Vt p.dst, Vt p.opts, Vs p.A p.n p.c] 24]) ∧ (pickB (Operand.const (Vo true)) (Operand.tmp 52) ((↑p.src.size : Int) != (4 : Int)) true ((↑p.dst.size : Int) != (4 : Int)) = false → (pickB (Operand.const (Vo true)) (Operand.tmp 72) ((↑p.opts.size : Int).tmod (4 : Int) != (0 : Int)) true (decide ((↑p.opts.size : Int) > (40 : Int))) = true → ∀ (b_2 : Nat), Q [Value.iface 56 (Vp (some (Addr.mk b_2 0 none)))] [Ch.blk b_1 [Vi p.tos, Vi (255 : Int), Vi p.ttl, Vi (255 : Int), Vi p.proto, Vi (255 : Int), Vi p.id, Vi (65535 : Int), Vi p.off, Vi (65528 : Int)] 3, cN, cN, Ch.blk b_2 [Vt (ByteArray.mk #[(111 : UInt8), (112 : UInt8), (116 : UInt8), (105 : UInt8), (111 : UInt8), (110 : UInt8), (115 : UInt8)]), Value.iface 27 (Vi (1 : Int))] 58, cN, Ch.blk b [Vi p.tos, Vi p.id, Vi p.ttl, Vi p.proto, Vo p.df, Vo p.mf, Vi p.off, Vt p.src, Vt p.dst, Vt p.opts, Vs p.A p.n p.c] 24]) ∧ (pickB (Operand.const (Vo true)) (Operand.tmp 72) ((↑p.opts.size : Int).tmod (4 : Int) != (0 : Int)) true (decide ((↑p.opts.size : Int) > (40 : Int))) = false → (decide (wr (wr ((20 : Int) + (↑p.opts.size : Int)) + (↑p.n : Int)) > (65535 : Int)) = true → ∀ (b_2 : Nat), Q [Value.iface 56 (Vp (some (Addr.mk b_2 0 none)))] [Ch.blk b_1 [Vi p.tos, Vi (255 : Int), Vi p.ttl, Vi (255 : Int), Vi p.proto, Vi (255 : Int), Vi p.id, Vi (65535 : Int), Vi p.off, Vi (65528 : Int)] 3, cN, cN, cN, Ch.blk b_2 [Vt (ByteArray.mk #[(100 : UInt8), (97 : UInt8), (116 : UInt8), (97 : UInt8)]), Value.iface 27 (Vi (2 : Int))] 58, Ch.blk b [Vi p.tos, Vi p.id, Vi p.ttl, Vi p.proto, Vo p.df, Vo p.mf, Vi p.off, Vt p.src, Vt p.dst, Vt p.opts, Vs p.A p.n p.c] 24]) ∧ (decide (wr (wr ((20 : Int) + (↑p.opts.size : Int)) + (↑p.n : Int)) > (65535 : Int)) = false → Q [Value.nilIface] [Ch.blk b_1 [Vi p.tos, Vi (255 : Int), Vi p.ttl, Vi (255 : Int), Vi p.proto, Vi (255 : Int), Vi p.id, Vi (65535 : Int), Vi p.off, Vi (65528 : Int)] 3, cN, cN, cN, cN, Ch.blk b [Vi p.tos, Vi p.id, Vi p.ttl, Vi p.proto, Vo p.df, Vo p.mf, Vi p.off, Vt p.src, Vt p.dst, Vt p.opts, Vs p.A p.n p.c] 24]))))) := by kernel_rfl
theorem vc21 (H : HOps) (A : Option Addr) (n c : Nat) (Q : List Value → List Ch → Prop) :
  execFn Tryd.prog H a21 Tryd.f21 [.raw (Vs A n c)] [] Q =
  (H.loop (Int × PUnit) [] [] ((0 : Int), pU) fun (x : Int × PUnit) (y : PUnit) (next : TupL (LF.mk [(3, TS.one (Sc.int IntKind.i64))] []).sl → List Ch → Prop) => (decide (x.fst < (↑n : Int)) = true → (A ≠ none ∧ (0 : Int) ≤ x.fst ∧ x.fst < (↑n : Int)) ∧ H.ldb (oI) (Instr.loadAt 3 (Vp (some ((oget A).add (Int.toNat x.fst * 1))))) fun (v : Int) => (decide (v < (0 : Int)) = true → Q [Vo false] []) ∧ (decide (v < (0 : Int)) = false → (A ≠ none ∧ (0 : Int) ≤ x.fst ∧ x.fst < (↑n : Int)) ∧ H.ldb (oI) (Instr.loadAt 3 (Vp (some ((oget A).add (Int.toNat x.fst * 1))))) fun (v : Int) => (A ≠ none ∧ (0 : Int) ≤ wr (x.fst + (1 : Int)) ∧ wr (x.fst + (1 : Int)) < (↑n : Int)) ∧ H.ldb (oI) (Instr.loadAt 3 (Vp (some ((oget A).add ((wr (x.fst + (1 : Int))).toNat * 1))))) fun (v_1 : Int) => (decide (v > v_1) = true → Q [Vo false] []) ∧ (decide (v > v_1) = false → ∀ (x_1 : Int), x_1 = wr (x.fst + (2 : Int)) → next (x_1, pU) []))) ∧ (decide (x.fst < (↑n : Int)) = false → Q [Vo true] [])) := by kernel_rfl
theorem vc16 (H : HOps) (e : Value) (Q : List Value → List Ch → Prop) :
  execFn Tryd.prog H a16 Tryd.f16 [.raw e] [.none] Q =
  (∀ (b : Nat), H.call (oB) 22 [e, Value.iface 60 (Vp (some (Addr.mk b 0 none)))] [Ch.blk b [Vi (0 : Int)] 27] [] fun (v : Bool) (y : PUnit) => (v = true → Q [Vi (0 : Int)] [Ch.blk b [Vi (0 : Int)] 27]) ∧ (v = false → Q [Vi (0 : Int)] [Ch.blk b [Vi (0 : Int)] 27])) := by kernel_rfl
theorem vc19 (H : HOps) (s : ByteArray) (Q : List Value → List Ch → Prop) :
  execFn Tryd.prog H a19 Tryd.f19 [.raw (Vt s)] [.none, .none, .none] Q =
  (H.loop ((Option Addr × Nat × Nat) × ByteArray × PUnit) [cN, cN, cN] [(0, CF.gone), (1, CF.gone)] ((none, 0, 0), s, pU) fun (x : (Option Addr × Nat × Nat) × ByteArray × PUnit) (y : PUnit × PUnit × PUnit) (next : TupL (LF.mk [(4, TS.one Sc.slc), (0, TS.one Sc.str)] [(0, CF.gone), (1, CF.gone)]).sl → List Ch → Prop) => (decide ((↑(ByteArray.size x.snd.fst) : Int) > (0 : Int)) = true → (0 : Int) ≤ (0 : Int) ∧ (0 : Int) < (↑(ByteArray.size x.snd.fst) : Int)) ∧ (pickB (Operand.tmp 11) (Operand.const (Vo false)) (decide ((↑(ByteArray.size x.snd.fst) : Int) > (0 : Int))) (byteAt x.snd.fst 0 != (0 : Int)) false = true → ((0 : Int) ≤ (0 : Int) ∧ (0 : Int) < (↑(ByteArray.size x.snd.fst) : Int)) ∧ ((byteAt x.snd.fst 0 == (1 : Int)) = true → ∀ (b : Nat), H.v (oS) (Builtin.append_ (Array.mk [49, 49]) 49 (Array.mk [Vs x.fst.fst x.fst.snd.fst x.fst.snd.snd, Vs (some (Addr.mk b 0 none)) 1 1])) [Ch.blk b [Vi (1 : Int), Vt (ByteArray.mk #[])] 53, cN, cN] [] fun (v : Option Addr × Nat × Nat) (y : PUnit) => ((0 : Int) ≤ (1 : Int) ∧ (1 : Int) ≤ (↑(ByteArray.size x.snd.fst) : Int)) ∧ next ((v.fst, v.snd.fst, v.snd.snd), ByteArray.extract x.snd.fst 1 (ByteArray.size x.snd.fst), pU) [Ch.blk b [Vi (1 : Int), Vt (ByteArray.mk #[])] 53, cN, cN]) ∧ ((byteAt x.snd.fst 0 == (1 : Int)) = false → (decide ((↑(ByteArray.size x.snd.fst) : Int) < (2 : Int)) = false → (0 : Int) ≤ (1 : Int) ∧ (1 : Int) < (↑(ByteArray.size x.snd.fst) : Int)) ∧ (pickB (Operand.const (Vo true)) (Operand.tmp 28) (decide ((↑(ByteArray.size x.snd.fst) : Int) < (2 : Int))) true (decide (byteAt x.snd.fst 1 < (2 : Int))) = false → (0 : Int) ≤ (1 : Int) ∧ (1 : Int) < (↑(ByteArray.size x.snd.fst) : Int)) ∧ (pickB (Operand.const (Vo true)) (Operand.tmp 36) (pickB (Operand.const (Vo true)) (Operand.tmp 28) (decide ((↑(ByteArray.size x.snd.fst) : Int) < (2 : Int))) true (decide (byteAt x.snd.fst 1 < (2 : Int)))) true (decide (wr (byteAt x.snd.fst 1) > (↑(ByteArray.size x.snd.fst) : Int))) = true → Q [Vs none 0 0, Vi (4 : Int)] [cN, cN, cN]) ∧ (pickB (Operand.const (Vo true)) (Operand.tmp 36) (pickB (Operand.const (Vo true)) (Operand.tmp 28) (decide ((↑(ByteArray.size x.snd.fst) : Int) < (2 : Int))) true (decide (byteAt x.snd.fst 1 < (2 : Int)))) true (decide (wr (byteAt x.snd.fst 1) > (↑(ByteArray.size x.snd.fst) : Int))) = false → ((0 : Int) ≤ (0 : Int) ∧ (0 : Int) < (↑(ByteArray.size x.snd.fst) : Int)) ∧ ((0 : Int) ≤ (1 : Int) ∧ (1 : Int) < (↑(ByteArray.size x.snd.fst) : Int)) ∧ ((0 : Int) ≤ (2 : Int) ∧ (2 : Int) ≤ byteAt x.snd.fst 1 ∧ byteAt x.snd.fst 1 ≤ (↑(ByteArray.size x.snd.fst) : Int)) ∧ ∀ (b : Nat), H.v (oS) (Builtin.append_ (Array.mk [49, 49]) 49 (Array.mk [Vs x.fst.fst x.fst.snd.fst x.fst.snd.snd, Vs (some (Addr.mk b 0 none)) 1 1])) [cN, Ch.blk b [Vi (wr (byteAt x.snd.fst 0)), Vt (ByteArray.extract x.snd.fst 2 (byteAt x.snd.fst 1).toNat)] 53, cN] [] fun (v : Option Addr × Nat × Nat) (y : PUnit) => ((0 : Int) ≤ (1 : Int) ∧ (1 : Int) < (↑(ByteArray.size x.snd.fst) : Int)) ∧ ((0 : Int) ≤ byteAt x.snd.fst 1 ∧ byteAt x.snd.fst 1 ≤ (↑(ByteArray.size x.snd.fst) : Int)) ∧ next ((v.fst, v.snd.fst, v.snd.snd), ByteArray.extract x.snd.fst (byteAt x.snd.fst 1).toNat (ByteArray.size x.snd.fst), pU) [cN, Ch.blk b [Vi (wr (byteAt x.snd.fst 0)), Vt (ByteArray.extract x.snd.fst 2 (byteAt x.snd.fst 1).toNat)] 53, cN]))) ∧ (pickB (Operand.tmp 11) (Operand.const (Vo false)) (decide ((↑(ByteArray.size x.snd.fst) : Int) > (0 : Int))) (byteAt x.snd.fst 0 != (0 : Int)) false = false → Q [Vs x.fst.fst x.fst.snd.fst x.fst.snd.snd, Vi (0 : Int)] [cN, cN, cN])) := by kernel_rfl
theorem vc22 (H : HOps) (t : TypeId) (b tt n : Nat) (Q : List Value → List Ch → Prop) :
  execFn Tryd.prog H a22 Tryd.f22 [.raw (.iface 56 (Vp (some ⟨b, 0, none⟩))), .raw (.iface 60 (Vp (some ⟨n, 0, none⟩)))] [.none] Q =
  ((false = true → Q [Vo false] [cN]) ∧ (false = false → (false = true → False) ∧ (false = false → H.call (OS.one (TS.agg [Sc.ptr, Sc.any, Sc.int IntKind.u64])) 30 [Value.iface 60 (Vp (some (Addr.mk n 0 none)))] [cN] [] fun (v : Option Addr × Value × Int × PUnit) (y : PUnit) => ∀ (b_1 : Nat), allOne (Value.agg (TupS.vals (flatT Tryd.prog 8 77) v).toArray).cells.toList = true ∧ H.call (OS.one (TS.one Sc.any)) 31 [Value.agg (Array.mk [Vp v.fst, (scOf Tryd.prog (Field.mk "ptr" 74 1 false "" "internal/reflectlite" 8).type).val v.snd.fst, Value.int IntKind.u64 v.snd.snd.fst])] [Ch.blk b_1 [Vp v.fst, (scOf Tryd.prog (Field.mk "ptr" 74 1 false "" "internal/reflectlite" 8).type).val v.snd.fst, Value.int IntKind.u64 v.snd.snd.fst] 77] [] fun (v_1 : Value) (y : PUnit) => H.n (OS.one (TS.one (Sc.int IntKind.u8))) (callMethod v_1 "Kind" (Array.mk [])) [Ch.blk b_1 [Vp v.fst, (scOf Tryd.prog (Field.mk "ptr" 74 1 false "" "internal/reflectlite" 8).type).val v.snd.fst, Value.int IntKind.u64 v.snd.snd.fst] 77] [] fun (v_2 : Int) (y : PUnit) => ((v_2 != (22 : Int)) = true → False) ∧ ((v_2 != (22 : Int)) = false → H.call (oB) 32 [Value.agg (Array.mk [Vp v.fst, (scOf Tryd.prog (Field.mk "ptr" 74 1 false "" "internal/reflectlite" 8).type).val v.snd.fst, Value.int IntKind.u64 v.snd.snd.fst])] [Ch.blk b_1 [Vp v.fst, (scOf Tryd.prog (Field.mk "ptr" 74 1 false "" "internal/reflectlite" 8).type).val v.snd.fst, Value.int IntKind.u64 v.snd.snd.fst] 77] [] fun (v_3 : Bool) (y : PUnit) => (v_3 = true → False) ∧ (v_3 = false → H.n (OS.one (TS.one Sc.any)) (callMethod v_1 "Elem" (Array.mk [])) [Ch.blk b_1 [Vp v.fst, (scOf Tryd.prog (Field.mk "ptr" 74 1 false "" "internal/reflectlite" 8).type).val v.snd.fst, Value.int IntKind.u64 v.snd.snd.fst] 77] [] fun (v_4 : Value) (y : PUnit) => H.n (OS.one (TS.one (Sc.int IntKind.u8))) (callMethod v_4 "Kind" (Array.mk [])) [Ch.blk b_1 [Vp v.fst, (scOf Tryd.prog (Field.mk "ptr" 74 1 false "" "internal/reflectlite" 8).type).val v.snd.fst, Value.int IntKind.u64 v.snd.snd.fst] 77] [] fun (v_5 : Int) (y : PUnit) => ((v_5 != (20 : Int)) = true → H.ld (OS.one (TS.one Sc.any)) (Instr.loadAt 80 (Vp (some (Addr.mk 0 0 none)))) [Ch.blk b_1 [Vp v.fst, (scOf Tryd.prog (Field.mk "ptr" 74 1 false "" "internal/reflectlite" 8).type).val v.snd.fst, Value.int IntKind.u64 v.snd.snd.fst] 77] fun (v_6 : Value) => H.n (oB) (callMethod v_4 "Implements" (Array.mk [v_6])) [Ch.blk b_1 [Vp v.fst, (scOf Tryd.prog (Field.mk "ptr" 74 1 false "" "internal/reflectlite" 8).type).val v.snd.fst, Value.int IntKind.u64 v.snd.snd.fst] 77] [] fun (v_7 : Bool) (y : PUnit) => ((!v_7) = true → False) ∧ ((!v_7) = false → H.call (oB) 33 [Value.iface 56 (Vp (some (Addr.mk b 0 none))), Value.iface 60 (Vp (some (Addr.mk n 0 none))), Value.agg (Array.mk [Vp v.fst, (scOf Tryd.prog (Field.mk "ptr" 74 1 false "" "internal/reflectlite" 8).type).val v.snd.fst, Value.int IntKind.u64 v.snd.snd.fst]), v_4] [Ch.blk b_1 [Vp v.fst, (scOf Tryd.prog (Field.mk "ptr" 74 1 false "" "internal/reflectlite" 8).type).val v.snd.fst, Value.int IntKind.u64 v.snd.snd.fst] 77] [] fun (v_8 : Bool) (y : PUnit) => Q [Vo v_8] [Ch.blk b_1 [Vp v.fst, (scOf Tryd.prog (Field.mk "ptr" 74 1 false "" "internal/reflectlite" 8).type).val v.snd.fst, Value.int IntKind.u64 v.snd.snd.fst] 77])) ∧ ((v_5 != (20 : Int)) = false → H.call (oB) 33 [Value.iface 56 (Vp (some (Addr.mk b 0 none))), Value.iface 60 (Vp (some (Addr.mk n 0 none))), Value.agg (Array.mk [Vp v.fst, (scOf Tryd.prog (Field.mk "ptr" 74 1 false "" "internal/reflectlite" 8).type).val v.snd.fst, Value.int IntKind.u64 v.snd.snd.fst]), v_4] [Ch.blk b_1 [Vp v.fst, (scOf Tryd.prog (Field.mk "ptr" 74 1 false "" "internal/reflectlite" 8).type).val v.snd.fst, Value.int IntKind.u64 v.snd.snd.fst] 77] [] fun (v_6 : Bool) (y : PUnit) => Q [Vo v_6] [Ch.blk b_1 [Vp v.fst, (scOf Tryd.prog (Field.mk "ptr" 74 1 false "" "internal/reflectlite" 8).type).val v.snd.fst, Value.int IntKind.u64 v.snd.snd.fst] 77])))))) := by kernel_rfl

