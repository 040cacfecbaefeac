/- The symbolic executor: what a function's text asks, computed from its text. -/
import Derived.Test.YtkignenfgilepaaHeap
namespace Go.SL
open Go Go.RowKit
set_option linter.unusedVariables false
set_option linter.unusedSimpArgs false

/-! ### Chunks -/
/-- A part of the heap with a name: its place in the list of chunks. -/
inductive Ch where
  | none
  | blk (b : Nat) (cs : List Value) (T : TypeId)
  | own (A : Hp → Prop)
def Ch.sat : Ch → Hp → Prop
  | .none, h => h = Hp.emp
  | .blk b cs T, h => h = Hp.one b (.cells cs.toArray T (0, 0))
  | .own A, h => A h
def satL : List Ch → Hp → Prop
  | [], h => h = Hp.emp
  | c :: cs, h => ∃ h1 h2, Disj h1 h2 ∧ h = h1.un h2 ∧ c.sat h1 ∧ satL cs h2

/-! ### Shapes of values -/
inductive Sc where
  | int (k : IntKind) | bool | str | ptr | slc | any
@[reducible] def Sc.ty : Sc → Type
  | .int _ => Int | .bool => Bool | .str => ByteArray | .ptr => Option Addr | .slc => Option Addr × Nat × Nat | .any => Value
def Sc.val : (s : Sc) → s.ty → Value
  | .int k, n => .int k n | .bool, b => .bool b | .str, s => .string s | .ptr, a => .pointer a | .slc, x => .slice x.1 x.2.1 x.2.2 | .any, v => v
@[reducible] def TupS : List Sc → Type
  | [] => PUnit | s :: r => s.ty × TupS r
def TupS.vals : (l : List Sc) → TupS l → List Value
  | [], _ => [] | s :: r, x => s.val x.1 :: TupS.vals r x.2
inductive TS where
  | one (s : Sc) | agg (l : List Sc) | arr
@[reducible] def TS.ty : TS → Type
  | .one s => s.ty | .agg l => TupS l | .arr => List Value
def TS.val : (t : TS) → t.ty → Value
  | .one s, x => s.val x | .agg l, x => .agg (TupS.vals l x).toArray | .arr, x => .agg x.toArray
@[reducible] def TupT : List TS → Type
  | [] => PUnit | s :: r => s.ty × TupT r
def TupT.vals : (l : List TS) → TupT l → List Value
  | [], _ => [] | s :: r, x => s.val x.1 :: TupT.vals r x.2
inductive OS where
  | one (t : TS) | tup (l : List TS)
@[reducible] def OS.ty : OS → Type
  | .one t => t.ty | .tup l => TupT l
def OS.val : (t : OS) → t.ty → Value
  | .one t, x => t.val x | .tup l, x => .tuple (TupT.vals l x).toArray

section
variable (P : Program)
def scOf (T : TypeId) : Sc :=
  match P.underlying T with
  | some .bool => .bool | some (.int k) => .int k | some .string => .str | some (.pointer _) => .ptr | some (.slice _) => .slc | _ => .any
def repeatL {α : Type} (l : List α) : Nat → List α
  | 0 => [] | n + 1 => l ++ repeatL l n
def flatF (g : TypeId → List Sc) : List Field → List Sc
  | [] => [] | f :: r => g f.type ++ flatF g r
def flatT : Nat → TypeId → List Sc
  | 0, _ => []
  | d + 1, T =>
    match P.underlying T with
    | some (.struct fs) => flatF (flatT d) fs.toList
    | some (.array n e) => repeatL (flatT d e) n
    | _ => [scOf P T]
def tsOf (T : TypeId) : TS :=
  match P.underlying T with
  | some (.struct _) => .agg (flatT P 8 T) | some (.array _ _) => .arr | _ => .one (scOf P T)
def osOf (T : TypeId) : OS :=
  match P.underlying T with
  | some (.tuple ts) => .tup (ts.toList.map (tsOf P)) | _ => .one (tsOf P T)
/-- What a function hands back. -/
def retOf (f : FuncId) : OS :=
  match P.funcs[f]? with
  | some fn => (match fn.resultTypes.toList with | [t] => .one (tsOf P t) | l => .tup (l.map (tsOf P)))
  | none => .tup []
end

/-! ### States -/
inductive SVal where
  | raw (v : Value) | ptr (n : Nat) (off : Nat) | lit (b : Bool)
inductive Sl where
  | unk | val (v : SVal) | cnd (t : Nat) (w : Bool) (v : SVal)
/-- How many slots; what each is known to hold; which slots are tests of others; the chunks. -/
structure St where
  nt : Nat
  sl : Nat → Sl
  gs : Nat → Bool
  cs : List Ch
def updS (sl : Nat → Sl) (d : Option Nat) (e : Sl) : Nat → Sl :=
  match d with
  | none => sl
  | some d => fun i => match decEq i d with | isTrue _ => e | isFalse _ => sl i
def updG (gs : Nat → Bool) : Sl → Nat → Bool
  | .cnd t _ _ => fun i => match decEq i t with | isTrue _ => true | isFalse _ => gs i
  | _ => gs
def noG (sl : Nat → Sl) : Nat → Sl := fun i => match sl i with | .cnd _ _ _ => .unk | x => x
def St.put (st : St) (d : Option Nat) (e : Sl) : St := { st with sl := updS st.sl d e, gs := updG st.gs e }
/-- May the slot be written? -/
def St.free (st : St) : Option Nat → Bool
  | none => true
  | some d => Nat.blt d st.nt && !st.gs d
def SVal.den (cs : List Ch) : SVal → Option Value
  | .raw v => some v
  | .lit b => some (.bool b)
  | .ptr n off => match cs[n]? with | some (.blk b _ _) => some (.pointer (some ⟨b, off, none⟩)) | _ => none
def gMatch (g : Option (Nat × Bool)) (t : Nat) (w : Bool) : Bool :=
  match g with
  | some (t2, w2) => (match decEq t2 t with | isTrue _ => w2 == w | isFalse _ => false)
  | none => false
/-- The value of an operand, in an operation under a guard. -/
def ev (sl : Nat → Sl) (g : Option (Nat × Bool)) : Operand → Option SVal
  | .tmp t => match sl t with
    | .val v => some v
    | .cnd t' w v =>
      (match gMatch g t' w with | true => some v | false => none)
    | .unk => none
  | .const v => some (match v with | .bool b => .lit b | v => .raw v)
  | .global g => some (.raw (.pointer (some ⟨g, 0, none⟩)))
  | .func f => some (.raw (.func (.func f) #[] #[]))
def evV (sl : Nat → Sl) (cs : List Ch) (g : Option (Nat × Bool)) (x : Operand) : Option Value :=
  match ev sl g x with | some v => v.den cs | none => none

/-! ### Pure operations -/
inductive PR where
  | no | val (v : Value) | pre (p : Prop) (v : Value)
def PR.bindV (x : Option Value) (f : Value → PR) : PR := match x with | some v => f v | none => .no
def constInt : Operand → Option Int
  | .const (.int _ n) => some n
  | _ => none
def intBin (op : BinOp) (k : IntKind) (x y : Int) (yc : Option Int) : PR :=
  match op with
  | .add => .val (.int k (k.wrap (x + y)))
  | .sub => .val (.int k (k.wrap (x - y)))
  | .mul => .val (.int k (k.wrap (x * y)))
  | .quo => (match yc with
    | some n => (match decEq n 0 with | isTrue _ => .no | isFalse _ => .val (.int k (k.wrap (x.tdiv n))))
    | none => .pre (y ≠ 0) (.int k (k.wrap (x.tdiv y))))
  | .rem => (match yc with
    | some n => (match decEq n 0 with | isTrue _ => .no | isFalse _ => .val (.int k (x.tmod n)))
    | none => .pre (y ≠ 0) (.int k (x.tmod y)))
  | .and => .val (.int k (k.wrap (BitVec.ofInt k.bits x &&& BitVec.ofInt k.bits y).toNat))
  | .or => .val (.int k (k.wrap (BitVec.ofInt k.bits x ||| BitVec.ofInt k.bits y).toNat))
  | .xor => .val (.int k (k.wrap (BitVec.ofInt k.bits x ^^^ BitVec.ofInt k.bits y).toNat))
  | .andNot => .val (.int k (k.wrap (BitVec.ofInt k.bits x &&& ~~~ BitVec.ofInt k.bits y).toNat))
  | .eql => .val (.bool (x == y))
  | .neq => .val (.bool (x != y))
  | .lss => .val (.bool (x < y))
  | .leq => .val (.bool (x ≤ y))
  | .gtr => .val (.bool (x > y))
  | .geq => .val (.bool (x ≥ y))
  | _ => .no
def shiftBin (op : BinOp) (k : IntKind) (x y : Int) (yc : Option Int) : PR :=
  match yc with
  | some n => (match Int.decLt n 0 with
    | isTrue _ => .no
    | isFalse _ => (match op with
      | .shl => .val (.int k (k.wrap (x * 2 ^ (min n.toNat k.bits))))
      | .shr => .val (.int k (x.fdiv (2 ^ (min n.toNat k.bits))))
      | _ => .no))
  | none => (match op with
      | .shl => .pre (¬ y < 0) (.int k (k.wrap (x * 2 ^ (min y.toNat k.bits))))
      | .shr => .pre (¬ y < 0) (.int k (x.fdiv (2 ^ (min y.toNat k.bits))))
      | _ => .no)
def strBin (op : BinOp) (x y : ByteArray) : PR :=
  match op with
  | .add => .pre (¬ ((x.size + y.size : Nat) : Int) > IntKind.i64.max) (.string (x ++ y))
  | .eql => .val (.bool (x.toList == y.toList))
  | .neq => .val (.bool !(x.toList == y.toList))
  | .lss => .val (.bool (Op.bytesLess x.toList y.toList))
  | .leq => .val (.bool (Op.bytesLess x.toList y.toList || x.toList == y.toList))
  | .gtr => .val (.bool !(Op.bytesLess x.toList y.toList || x.toList == y.toList))
  | .geq => .val (.bool !(Op.bytesLess x.toList y.toList))
  | _ => .no
def eqBin (P : Program) (T : TypeId) (x y : Value) (xc yc : Bool) : Option Bool :=
  match P.underlying T with
  | some .bool => (match x, y with | .bool a, .bool b => some (a == b) | _, _ => none)
  | some (.pointer _) => (match x, y with | .pointer a, .pointer none => some a.isNone | .pointer none, .pointer b => some b.isNone | _, _ => none)
  | some (.slice _) => (match x, y with | .slice a _ _, .slice none _ _ => some a.isNone | .slice none _ _, .slice b _ _ => some b.isNone | _, _ => none)
  | some (.interface _) => (match x, y with
    | .nilIface, .nilIface => (match xc || yc with | true => some true | false => none)
    | .nilIface, .iface _ _ => some false
    | .iface _ _, .nilIface => some false
    | _, _ => none)
  | _ => none
def isShift : BinOp → Bool
  | .shl => true | .shr => true | _ => false
def isConst : Operand → Bool
  | .const _ => true | _ => false
def binR (P : Program) (op : BinOp) (T : TypeId) (xo yo : Operand) (x y : Value) : PR :=
  match x, y with
  | .int k a, .int k' b => (match isShift op with
    | true => shiftBin op k a b (constInt yo)
    | false => (match decEq k k' with | isTrue _ => intBin op k a b (constInt yo) | isFalse _ => .no))
  | .string a, .string b => strBin op a b
  | x, y => (match op with
    | .eql => (match eqBin P T x y (isConst xo) (isConst yo) with | some b => .val (.bool b) | none => .no)
    | .neq => (match eqBin P T x y (isConst xo) (isConst yo) with | some b => .val (.bool !b) | none => .no)
    | _ => .no)
def unR (op : UnOp) (x : Value) : PR :=
  match op, x with
  | .neg, .int k n => .val (.int k (k.wrap (0 - n)))
  | .xor, .int k n => .val (.int k (k.wrap (BitVec.ofInt k.bits (if k.signed then -1 else k.max) ^^^ BitVec.ofInt k.bits n).toNat))
  | .not, .bool b => .val (.bool !b)
  | _, _ => .no
def isAggP (P : Program) (T : TypeId) : Bool :=
  match P.underlying T with | some (.struct _) => true | some (.array _ _) => true | _ => false
/-- The size of a type, and that it is one. -/
def sizeP (P : Program) (T : TypeId) : Nat := match P.info? T with | some i => i.size | none => 0
def fieldP (P : Program) (T : TypeId) (f : Nat) : Option Field :=
  match P.underlying T with | some (.struct fs) => fs[f]? | _ => none
def partL (P : Program) (T : TypeId) (cs : List Value) (off : Nat) : Option Value :=
  match isAggP P T with
  | true => some (.agg ((cs.drop off).take (sizeP P T)).toArray)
  | false => cs[off]?
def oget (A : Option Addr) : Addr := match A with | some a => a | none => ⟨0, 0, none⟩
/-- Where a slice of a slice begins. -/
def subA (A : Option Addr) (c l size : Nat) : Option Addr := if c = l then A else A.map (·.add (l * size))
def lenR (P : Program) (T : TypeId) (x : Value) : PR :=
  match P.underlying T, x with
  | some .string, .string s => .val (.int .i64 s.size)
  | some (.slice _), .slice _ n _ => .val (.int .i64 n)
  | some (.array n _), _ => .val (.int .i64 n)
  | _, _ => .no
def capR (P : Program) (T : TypeId) (x : Value) : PR :=
  match P.underlying T, x with
  | some (.slice _), .slice _ _ n => .val (.int .i64 n)
  | _, _ => .no
def min2R (x y : Value) : Option Value :=
  match x, y with | .int k a, .int _ b => some (.int k (if b < a then b else a)) | _, _ => none
def max2R (x y : Value) : Option Value :=
  match x, y with | .int k a, .int _ b => some (.int k (if b > a then b else a)) | _, _ => none
def sliceR (P : Program) (T : TypeId) (x : Value) (lo hi mx : Option Value) : PR :=
  match P.underlying T, x, mx with
  | some .string, .string s, none =>
    (match lo, hi with
     | none, none => .val (.string (s.extract 0 s.size))
     | some (.int _ l), none => .pre (0 ≤ l ∧ l ≤ (s.size : Int)) (.string (s.extract l.toNat s.size))
     | none, some (.int _ h) => .pre (0 ≤ h ∧ h ≤ (s.size : Int)) (.string (s.extract 0 h.toNat))
     | some (.int _ l), some (.int _ h) => .pre (0 ≤ l ∧ l ≤ h ∧ h ≤ (s.size : Int)) (.string (s.extract l.toNat h.toNat))
     | _, _ => .no)
  | some (.slice e), .slice A n c, none =>
    (match lo, hi with
     | none, none => .val (.slice (subA A c 0 (sizeP P e)) n c)
     | some (.int _ l), none => .pre (0 ≤ l ∧ l ≤ (n : Int)) (.slice (subA A c l.toNat (sizeP P e)) (n - l.toNat) (c - l.toNat))
     | none, some (.int _ h) => .pre (0 ≤ h ∧ h ≤ (c : Int)) (.slice (subA A c 0 (sizeP P e)) h.toNat c)
     | some (.int _ l), some (.int _ h) => .pre (0 ≤ l ∧ l ≤ h ∧ h ≤ (c : Int)) (.slice (subA A c l.toNat (sizeP P e)) (h.toNat - l.toNat) (c - l.toNat))
     | _, _ => .no)
  | some (.slice e), .slice A n c, some (.int _ m) =>
    (match lo, hi with
     | none, some (.int _ h) => .pre (0 ≤ h ∧ h ≤ m ∧ m ≤ (c : Int)) (.slice (subA A m.toNat 0 (sizeP P e)) h.toNat m.toNat)
     | some (.int _ l), some (.int _ h) => .pre (0 ≤ l ∧ l ≤ h ∧ h ≤ m ∧ m ≤ (c : Int)) (.slice (subA A m.toNat l.toNat (sizeP P e)) (h.toNat - l.toNat) (m.toNat - l.toNat))
     | _, _ => .no)
  | _, _, _ => .no
/-- The byte of a text at a place. -/
def byteAt (s : ByteArray) (i : Nat) : Int := match s.data[i]? with | some b => (b.toNat : Int) | none => 0
def indexR (P : Program) (T : TypeId) (x i : Value) : PR :=
  match P.underlying T, x, i with
  | some .string, .string s, .int _ i => .pre (0 ≤ i ∧ i < (s.size : Int)) (.int .u8 (byteAt s i.toNat))
  | _, _, _ => .no
def indexAddrR (P : Program) (T : TypeId) (x i : Value) : PR :=
  match P.underlying T, x, i with
  | some (.slice e), .slice A n _, .int _ i => .pre (A ≠ none ∧ 0 ≤ i ∧ i < (n : Int)) (.pointer (some ((oget A).add (i.toNat * sizeP P e))))
  | some (.array n e), .pointer (some a), .int _ i => .pre (0 ≤ i ∧ i < (n : Int)) (.pointer (some (a.add (i.toNat * sizeP P e))))
  | _, _, _ => .no
def optV (e : Operand → Option Value) : Option Operand → Option (Option Value)
  | none => some none
  | some x => match e x with | some v => some (some v) | none => none
def allV (e : Operand → Option Value) : List Operand → Option (List Value)
  | [] => some []
  | x :: r => match e x with | some v => (match allV e r with | some l => some (v :: l) | none => none) | none => none
def setAt (cs : List Value) (off : Nat) : List Value → List Value
  | [] => cs
  | v :: r => setAt (cs.set off v) (off + 1) r
def fillL (place : Nat → Option (Nat × Nat)) (e : Operand → Option Value) (cells : List Value) : List (Nat × Operand) → Option (List Value)
  | [] => some cells
  | (i, x) :: rest =>
    match place i, e x with
    | some (off, size), some v =>
      (match decEq v.cells.size size, Nat.decLe (off + size) cells.length with
       | isTrue _, isTrue _ => fillL place e (setAt cells off v.cells.toList) rest
       | _, _ => none)
    | _, _ => none
def placeF (P : Program) (fs : Array Field) (i : Nat) : Option (Nat × Nat) := match fs[i]? with | some f => some (f.offset, sizeP P f.type) | none => none
def zeroP (P : Program) (T : TypeId) : Option Value := match P.info? T with | some i => i.zero | none => none
def buildR (P : Program) (T : TypeId) (parts : List (Nat × Operand)) (e : Operand → Option Value) : PR :=
  match zeroP P T, P.underlying T with
  | some z, some (.struct fs) =>
    (match fillL (placeF P fs) e z.cells.toList parts with
     | some cs => .val (.agg cs.toArray) | none => .no)
  | some z, some (.array _ el) =>
    (match fillL (fun i => some (i * sizeP P el, sizeP P el)) e z.cells.toList parts with
     | some cs => .val (.agg cs.toArray) | none => .no)
  | _, _ => .no
def okElem (P : Program) (T : TypeId) : Bool :=
  match P.underlying T with
  | some (.slice e) => (P.info? e).isSome
  | some (.array _ e) => (P.info? e).isSome
  | some (.struct fs) => fs.toList.all fun f => (P.info? f.type).isSome
  | _ => true
/-- What a pure operation yields, from its operands' values. -/
def pev (P : Program) (o : Op) (e : Operand → Option Value) : PR :=
  match o with
  | .build T parts => (match okElem P T with | true => buildR P T parts.toList e | false => .no)
  | .binOp op T x y _ => PR.bindV (e x) fun a => PR.bindV (e y) fun b => binR P op T x y a b
  | .unOp op _ x => PR.bindV (e x) (unR op)
  | .convert s d x => PR.bindV (e x) fun v => (match P.underlying s, P.underlying d, v with
    | some _, some (.int k), .int _ n => .val (.int k (k.wrap n))
    | some _, some .string, .string b => .val (.string b)
    | _, _, _ => .no)
  | .makeInterface T x => PR.bindV (e x) fun v => (match P.underlying T with | some (.interface _) => .no | some _ => .val (.iface T v) | none => .no)
  | .makeFunc fn first captured => (match allV e first.toList, allV e captured.toList with | some a, some b => .val (.func fn a.toArray b.toArray) | _, _ => .no)
  | .extract x i => PR.bindV (e x) fun v => (match v with | .tuple vs => (match vs.toList[i]? with | some v => .val v | none => .no) | _ => .no)
  | .field T x f => PR.bindV (e x) fun v => (match v, fieldP P T f with | .agg cs, some fd => (match (match P.underlying fd.type with | some _ => partL P fd.type cs.toList fd.offset | none => none) with | some v => .val v | none => .no) | _, _ => .no)
  | .fieldAddr T x f => PR.bindV (e x) fun v => (match v, fieldP P T f with
    | .pointer (some a), some fd => (match decEq (sizeP P fd.type) 0 with | isTrue _ => .no | isFalse _ => .val (.pointer (some (a.add fd.offset))))
    | _, _ => .no)
  | .nilCheck x => PR.bindV (e x) fun v => (match v with | .pointer A => .pre (A ≠ none) (.pointer (some (oget A))) | _ => .no)
  | .slice T x lo hi mx => PR.bindV (e x) fun v => (match optV e lo, optV e hi, optV e mx with | some l, some h, some m => (match okElem P T with | true => sliceR P T v l h m | false => .no) | _, _, _ => .no)
  | .index T x i => PR.bindV (e x) fun v => PR.bindV (e i) fun n => indexR P T v n
  | .indexAddr T x i => PR.bindV (e x) fun v => PR.bindV (e i) fun n => (match okElem P T with | true => indexAddrR P T v n | false => .no)
  | .call c => (match c.callee, c.args.toList, c.argTypes.toList with
    | .builtin .len, [x], [T] => PR.bindV (e x) (lenR P T)
    | .builtin .cap, [x], [T] => PR.bindV (e x) (capR P T)
    | .builtin .min, [x, y], _ => PR.bindV (e x) fun a => PR.bindV (e y) fun b => (match min2R a b with | some v => .val v | none => .no)
    | .builtin .max, [x, y], _ => PR.bindV (e x) fun a => PR.bindV (e y) fun b => (match max2R a b with | some v => .val v | none => .no)
    | _, _, _ => .no)
  | _ => .no

/-! ### What is asked of the prover: a record of predicates -/
/-- What becomes of a chunk: it is owned, whatever it says · gone · a block of these forms, where it was. -/
inductive CF where
  | own | gone | blk (l : List Sc)
@[reducible] def CF.ty : CF → Type
  | .own => Hp → Prop | .gone => PUnit | .blk l => TupS l
def CF.ch : (f : CF) → f.ty → Option Ch → Ch
  | .own, A, _ => .own A
  | .gone, _, _ => .none
  | .blk l, x, some (.blk b _ T) => .blk b (TupS.vals l x) T
  | .blk _, _, _ => .none
/-- Chunks that change, by their names: all others stay as they are. -/
@[reducible] def TupF : List (Nat × CF) → Type
  | [] => PUnit | (_, f) :: r => f.ty × TupF r
def applyF : (l : List (Nat × CF)) → TupF l → List Ch → List Ch
  | [], _, cs => cs
  | (n, f) :: r, y, cs => applyF r y.2 (cs.set n (f.ch y.1 cs[n]?))
structure HOps where
  call : (r : OS) → FuncId → List Value → List Ch → (fm : List (Nat × CF)) → (r.ty → TupF fm → Prop) → Prop
  v : (r : OS) → Sem Value → List Ch → (fm : List (Nat × CF)) → (r.ty → TupF fm → Prop) → Prop
  u : Sem Unit → List Ch → (fm : List (Nat × CF)) → (TupF fm → Prop) → Prop
  ld : (r : OS) → Sem Value → List Ch → (r.ty → Prop) → Prop
  ldb : (r : OS) → Sem Value → (r.ty → Prop) → Prop
  n : (r : OS) → Sem Next → List Ch → (fm : List (Nat × CF)) → (r.ty → TupF fm → Prop) → Prop
  loop : (X : Type) → List Ch → (fm : List (Nat × CF)) → X → (X → TupF fm → (X → List Ch → Prop) → Prop) → Prop
  join : (X : Type) → List Ch → (fm : List (Nat × CF)) → ((X → List Ch → Prop) → Prop) → (X → TupF fm → Prop) → Prop

/-- The form of a state at a loop's head: slots that are told anew, chunks that change. -/
structure LF where
  sl : List (Nat × TS)
  cs : List (Nat × CF)
/-- What kind an operation is: pure (p; q: with addresses of blocks; g: its result is named) · a test that is parted (x) · a load of a block (l) · a load of what was there (b) · an alloc (a) · a store into a block (s) · hard (h). -/
inductive Kd where
  | p | q | g | x | l (n off sz : Nat) | b | a (nm : Nat) | s (n off sz : Nat) | h | r (L : List Nat) | o (nm : Nat)
structure Ann where
  ord : List (Nat × List (Nat × Kd)) := []
  fm : List (Nat × Nat × List (Nat × CF)) := []
  split : List (Nat × Nat) := []
  gen : List (Nat × Nat) := []
  base : List (Nat × Nat) := []
  names : List (Nat × Nat) := []
  loops : List (Nat × LF) := []
  joins : List (Nat × LF) := []
  fix : List (Nat × Bool) := []
  hard : List (Nat × Nat) := []
  owns : List Nat := []
def findL {α : Type} (k : Nat) : List (Nat × α) → Option α
  | [] => none
  | (j, a) :: r => match decEq j k with | isTrue _ => some a | isFalse _ => findL k r
def memN (k : Nat) : List Nat → Bool
  | [] => false | j :: r => match decEq j k with | isTrue _ => true | isFalse _ => memN k r
def mem2 (k l : Nat) : List (Nat × Nat) → Bool
  | [] => false
  | (i, j) :: r => match decEq i k, decEq j l with | isTrue _, isTrue _ => true | _, _ => mem2 k l r
def find2 {α : Type} (k l : Nat) : List (Nat × Nat × List α) → List α
  | [] => []
  | (i, j, a) :: r => match decEq i k, decEq j l with | isTrue _, isTrue _ => a | _, _ => find2 k l r
/-- Addresses of chunks that are gone are not known. -/
def lostN (n : Nat) : List (Nat × CF) → Bool
  | [] => false
  | (m, .blk _) :: r => lostN n r
  | (m, _) :: r => match decEq m n with | isTrue _ => true | isFalse _ => lostN n r
/-- Chunks that are gone were no blocks. -/
def lostOk (cs : List Ch) : List (Nat × CF) → Bool
  | [] => true
  | (_, .blk _) :: r => lostOk cs r
  | (n, _) :: r => (match cs[n]? with | some (.blk _ _ _) => false | _ => lostOk cs r)
/-! ### One operation -/
inductive GS where
  | run (g : Option (Nat × Bool)) | skip | bad
def dstOf (ops : Array Oper) (j : Nat) : Option Nat := match ops[j]? with | some oj => oj.dst | none => none
def isDst (d : Option Nat) (t : Nat) : Bool := match d with | some d => Nat.beq d t | none => false
def guardS (ops : Array Oper) (o : Oper) (sl : Nat → Sl) : GS :=
  match o.guard with
  | none => .run none
  | some (j, w) =>
    match dstOf ops j with
    | none => .bad
    | some t => match isDst o.dst t with
      | true => .bad
      | false => match sl t with
      | .val (.lit b) => (match b == w with | true => .run none | false => .skip)
      | .val (.raw (.bool _)) => .run (some (t, w))
      | .cnd _ _ (.raw (.bool _)) => .run (some (t, w))
      | _ => .bad
/-- What a slot is known to hold behind an operation under a guard. -/
def under (g : Option (Nat × Bool)) (v : SVal) : Sl := match g with | none => .val v | some (t, w) => .cnd t w v
/-- The bool of a slot. -/
def boolOf : SVal → Option Bool
  | .raw (.bool b) => some b | .lit b => some b | _ => none
/-- A pick's arm: known without more, under its own guard, or under the pick's own test. -/
def armOf (sl : Nat → Sl) (g : Option (Nat × Bool)) (c : Operand) (w : Bool) (x : Operand) : Option Bool :=
  match ev sl g x with
  | some v => boolOf v
  | none => match c with
    | .tmp t => (match ev sl (some (t, w)) x with | some v => boolOf v | none => none)
    | _ => none
def allocR (P : Program) (o : Op) (e : Operand → Option Value) : Option (List Value × TypeId × Option Nat) :=
  match o with
  | .box T x => (match e x with | some v => some (v.cells.toList, T, none) | none => none)
  | .alloc T => (match zeroP P T with | some z => some (z.cells.toList, T, none) | none => none)
  | .buildSlice T n parts =>
    (match P.underlying T with
     | some (.slice el) => (match zeroP P el with
       | some z => (match decEq z.cells.size (sizeP P el), decEq (sizeP P el) 0, Nat.decLe (n * sizeP P el) 16777216 with
         | isTrue _, isFalse _, isTrue _ => (match fillL (fun i => some (i * sizeP P el, sizeP P el)) e (repeatL z.cells.toList n) parts.toList with
           | some cs => some (cs, el, some n) | none => none)
         | _, _, _ => none)
       | none => none)
     | _ => none)
  | _ => none
def isNoneCh : Option Ch → Bool
  | some .none => true | _ => false
def ofPR : PR → Option (Option Prop × SVal)
  | .no => none | .val v => some (none, .raw v) | .pre p v => some (some p, .raw v)
/-- A choice between two bools, spelt as '||' and '&&' where it is one. -/
def pickB (a b : Operand) (x p q : Bool) : Bool :=
  match a, b with
  | .const (.bool true), _ => x || q
  | _, .const (.bool false) => x && p
  | _, _ => (match x with | true => p | false => q)
/-- What a pure operation yields, with names kept. -/
def pureS (P : Program) (o : Op) (sl : Nat → Sl) (cs : List Ch) (g : Option (Nat × Bool)) : Option (Option Prop × SVal) :=
  match o with
  | .move x => (match ev sl g x with | some v => some (none, v) | none => none)
  | .assign x => (match ev sl g x with | some v => some (none, v) | none => none)
  | .pick c a b => (match ev sl g c with
    | some (.lit true) => (match ev sl g a with | some v => some (none, v) | none => none)
    | some (.lit false) => (match ev sl g b with | some v => some (none, v) | none => none)
    | some (.raw (.bool x)) => (match armOf sl g c true a, armOf sl g c false b with
      | some p, some q => some (none, .raw (.bool (pickB a b x p q)))
      | _, _ => none)
    | _ => none)
  | .nilCheck x => (match ev sl g x with
    | some (.ptr n off) => some (none, .ptr n off)
    | _ => ofPR (pev P o (evV sl cs g)))
  | .fieldAddr T x f => (match ev sl g x with
    | some (.ptr n off) => (match fieldP P T f with
      | some fd => (match decEq (sizeP P fd.type) 0 with | isTrue _ => none | isFalse _ => some (none, .ptr n (off + fd.offset)))
      | none => none)
    | _ => ofPR (pev P o (evV sl cs g)))
  | _ => ofPR (pev P o (evV sl cs g))
/-- A premise under a guard. -/
def condP (sl : Nat → Sl) (g : Option (Nat × Bool)) (p : Prop) : Prop :=
  match g with
  | none => p
  | some (t, w) => match sl t with
    | .val (.raw (.bool b)) => (b = w → p)
    | .cnd _ _ (.raw (.bool b)) => (b = w → p)
    | _ => p
def withP (sl : Nat → Sl) (g : Option (Nat × Bool)) (p : Option Prop) (k : Prop) : Prop := match p with | none => k | some p => condP sl g p ∧ k
def hasAny : List Sc → Bool
  | [] => false | .any :: _ => true | _ :: r => hasAny r
/-- Is the value one that is stored cell by cell? Told by its form, where that tells. -/
def oneForm (P : Program) (T : TypeId) : Bool :=
  match tsOf P T with | .one .any => false | .one _ => true | .agg l => !hasAny l | .arr => false
def allOne : List Value → Bool
  | [] => true | .agg _ :: _ => false | .tuple _ :: _ => false | _ :: r => allOne r
def withOne (P : Program) (T : TypeId) (vs : List Value) (k : Prop) : Prop :=
  match oneForm P T with
  | true => (match allOne vs with | true => k | false => False)
  | false => allOne vs = true ∧ k
/-- A load of a block. -/
def loadS (P : Program) (T : TypeId) (cs : List Ch) (n off : Nat) : Option Value :=
  match cs[n]?, P.underlying T with
  | some (.blk _ cells _), some _ => (match Nat.decLe (off + sizeP P T) cells.length with | isTrue _ => partL P T cells off | isFalse _ => none)
  | _, _ => none
/-- A comparison that is asked; a call of a function's value. -/
def hardBin (op : BinOp) (T : TypeId) (x y : Operand) (a b : Value) : Sem Value := do eqGuard op T x y a b; binOp op T a b
def callVal (f : Value) (args : Array Value) : Sem Next := do let d ← Deferred.ofValue f args; invoke d.target d.args
/-- Operations that are asked of the prover. -/
def hardS (P : Program) (H : HOps) (o : Oper) (e : Operand → Option Value) (cs : List Ch) (fm : List (Nat × CF)) (k : SVal → TupF fm → Prop) : Prop :=
  match o.op with
  | .store T x y => (match e x, e y with
    | some a, some b => H.u (Instr.storeAt T a b) cs fm fun y => k (.raw undef) y
    | _, _ => False)
  | .makeSlice T l c => (match e l, e c with
    | some a, some b => H.v (osOf P o.type) (Instr.makeSlice T a b) cs fm fun v y => k (.raw ((osOf P o.type).val v)) y
    | _, _ => False)
  | .convert s d x => (match e x with
    | some a => H.v (osOf P o.type) (convert s d a) cs fm fun v y => k (.raw ((osOf P o.type).val v)) y
    | none => False)
  | .binOp op T x y _ => (match e x, e y with
    | some a, some b => H.v (osOf P o.type) (hardBin op T x y a b) cs fm fun v y => k (.raw ((osOf P o.type).val v)) y
    | _, _ => False)
  | .lookup T m x ok => (match e m, e x with
    | some a, some b => H.v (osOf P o.type) (Instr.lookup T a b ok) cs fm fun v y => k (.raw ((osOf P o.type).val v)) y
    | _, _ => False)
  | .mapUpdate T m x y => (match e m, e x, e y with
    | some a, some b, some c => H.u (Instr.mapUpdate T a b c) cs fm fun y => k (.raw undef) y
    | _, _, _ => False)
  | .insert T m x y => (match e m, e x, e y with
    | some a, some b, some c => H.u (Instr.mapUpdate T a b c) cs fm fun y => k (.raw undef) y
    | _, _, _ => False)
  | .makeMap T none => H.v (osOf P o.type) (Instr.makeMap T none) cs fm fun v y => k (.raw ((osOf P o.type).val v)) y
  | .range T x => (match e x with
    | some a => H.v (osOf P o.type) (Instr.range T a) cs fm fun v y => k (.raw ((osOf P o.type).val v)) y
    | none => False)
  | .next it s => (match e it with
    | some a => H.v (osOf P o.type) (Instr.next a s o.type) cs fm fun v y => k (.raw ((osOf P o.type).val v)) y
    | none => False)
  | .entry it => (match e it with
    | some a => H.v (osOf P o.type) (Instr.entry a) cs fm fun v y => k (.raw ((osOf P o.type).val v)) y
    | none => False)
  | .typeAssert x T u ok => (match e x with
    | some a => H.v (osOf P o.type) (Instr.typeAssert a T u ok) cs fm fun v y => k (.raw ((osOf P o.type).val v)) y
    | none => False)
  | .index T x i => (match e x, e i with
    | some a, some b => H.v (osOf P o.type) (Instr.index T a b) cs fm fun v y => k (.raw ((osOf P o.type).val v)) y
    | _, _ => False)
  | .slice T x lo hi mx => (match e x, optV e lo, optV e hi, optV e mx with
    | some a, some l, some h, some m => H.v (osOf P o.type) (Instr.sliceAt T a l h m) cs fm fun v y => k (.raw ((osOf P o.type).val v)) y
    | _, _, _, _ => False)
  | .indexAddr T x i => (match e x, e i with
    | some a, some b => H.v (osOf P o.type) (Instr.indexAt T a b) cs fm fun v y => k (.raw ((osOf P o.type).val v)) y
    | _, _ => False)
  | .sliceToArrayPointer T x => (match e x with
    | some a => H.v (osOf P o.type) (Instr.arrayAt T a) cs fm fun v y => k (.raw ((osOf P o.type).val v)) y
    | none => False)
  | .call c => (match allV e c.args.toList with
    | some args => (match c.callee with
      | .value (.func f) => H.call (retOf P f) f args cs fm fun v y => k (.raw ((retOf P f).val v)) y
      | .value x => (match e x with
        | some fv => H.n (osOf P o.type) (callVal fv args.toArray) cs fm fun v y => k (.raw ((osOf P o.type).val v)) y
        | none => False)
      | .invoke x m => (match e x with
        | some r => H.n (osOf P o.type) (callMethod r m args.toArray) cs fm fun v y => k (.raw ((osOf P o.type).val v)) y
        | none => False)
      | .builtin .append => H.v (osOf P o.type) (Builtin.append_ c.argTypes o.type args.toArray) cs fm fun v y => k (.raw ((osOf P o.type).val v)) y
      | .builtin .copy => H.v (osOf P o.type) (Builtin.copy_ c.argTypes o.type args.toArray) cs fm fun v y => k (.raw ((osOf P o.type).val v)) y
      | .builtin .delete => H.v (.tup []) (Builtin.delete_ c.argTypes o.type args.toArray) cs fm fun v y => k (.raw (.tuple #[])) y
      | .builtin .len => H.v (osOf P o.type) (Builtin.len_ c.argTypes o.type args.toArray) cs fm fun v y => k (.raw ((osOf P o.type).val v)) y
      | .builtin .clear => H.v (.tup []) (Builtin.clear_ c.argTypes o.type args.toArray) cs fm fun v y => k (.raw (.tuple #[])) y
      | .builtin _ => False)
    | none => False)
  | _ => False
/-- The kind of an operation, in a region whose order is the text's. -/
def autoK (P : Program) (an : Ann) (rid i : Nat) (o : Oper) (st : St) (g : Option (Nat × Bool)) : Kd :=
  match mem2 rid i an.split with
  | true => .x
  | false =>
  match mem2 rid i an.hard with
  | true => .h
  | false =>
  match mem2 rid i an.gen with
  | true => .g
  | false =>
  match o.op with
  | .load T x => (match ev st.sl g x with | some (.ptr n off) => .l n off (sizeP P T) | _ => (match mem2 rid i an.base with | true => .b | false => .h))
  | .store T x _ => (match ev st.sl g x with | some (.ptr n off) => .s n off (sizeP P T) | _ => .h)
  | .box _ _ => (match o.dst with | some d => .a ((findL d an.names).getD 0) | none => .h)
  | .alloc _ => (match o.dst with | some d => .a ((findL d an.names).getD 0) | none => .h)
  | .buildSlice _ _ _ => (match o.dst with | some d => (match memN d an.owns with | true => .o ((findL d an.names).getD 0) | false => .a ((findL d an.names).getD 0)) | none => .h)
  | op => (match pureS P op st.sl st.cs g with | some _ => .q | none => .h)
def isLoad : Op → Bool
  | .load _ _ => true | _ => false
/-- What an alloc yields: as it is known, and as it is. -/
def alS (sl : Option Nat) (b nm : Nat) : SVal := match sl with | some n => .raw (.slice (some ⟨b, 0, none⟩) n n) | none => .ptr nm 0
def alV (sl : Option Nat) (b : Nat) : Value := match sl with | some n => .slice (some ⟨b, 0, none⟩) n n | none => .pointer (some ⟨b, 0, none⟩)
def kdOf (kd : Option (St → Option (Nat × Bool) → Kd)) (kd' : Kd) (st : St) (g : Option (Nat × Bool)) : Kd := match kd with | some f => f st g | none => kd'
/-- A result is given a name. -/
def nameS (v : SVal) (k : SVal → Prop) : Prop :=
  match v with
  | .raw (.int i e) => ∀ x : Int, x = e → k (.raw (.int i x))
  | .raw (.bool e) => ∀ x : Bool, x = e → k (.raw (.bool x))
  | .raw (.string e) => ∀ x : ByteArray, x = e → k (.raw (.string x))
  | v => k v
/-- What an operation does to a state. -/
inductive Eff (fm : List (Nat × CF)) where
  | put (e : Sl) | made (e : Sl) (nm b : Nat) (cells : List Value) (T : TypeId) | stored (n off : Nat) (vs : List Value) | hard (v : SVal) (y : TupF fm) | ownd (e : Sl) (nm b : Nat) (cells : List Value) (T : TypeId)
def setBlk (cs : List Ch) (n off : Nat) (vs : List Value) : List Ch :=
  match cs[n]? with
  | some (.blk b cells T) => cs.set n (.blk b (setAt cells off vs) T)
  | _ => cs
def St.app (st : St) {fm : List (Nat × CF)} (d : Option Nat) : Eff fm → St
  | .put e => st.put d e
  | .made e nm b cells T => { st.put d e with cs := st.cs.set nm (.blk b cells T) }
  | .ownd e nm b cells T => { st.put d e with cs := st.cs.set nm (.own fun h => h = Hp.one b (.cells cells.toArray T (0, 0))) }
  | .stored n off vs => { st with cs := setBlk st.cs n off vs }
  | .hard v y => { st.put d (.val v) with cs := applyF fm y st.cs }
/-- The slots that an operation looks at. -/
def seeS (l : List Nat) (sl : Nat → Sl) : Nat → Sl := fun i => match memN i l with | true => sl i | false => .unk
/-- Chunks that are looked at. -/
def keepL (L : List Nat) : Nat → List Ch → List Ch
  | _, [] => []
  | i, x :: r => (match memN i L with | true => x | false => .none) :: keepL L (i + 1) r
/-- An operation that only reads. -/
def rdS (o : Op) (e : Operand → Option Value) : Option (Sem Value) :=
  match o with
  | .load T x => (match e x with | some a => some (Instr.loadAt T a) | none => none)
  | .convert s d x => (match e x with | some a => some (convert s d a) | none => none)
  | _ => none
/-- One operation, as one of a kind: what it asks. Addresses are turned to values by 'ce'. -/
def core (P : Program) (H : HOps) (fm : List (Nat × CF)) (kk : Kd) (o : Oper) (g : Option (Nat × Bool)) (sl : Nat → Sl) (cs ce : List Ch) (k : Eff fm → Prop) : Prop :=
    match kk with
    | .p => (match pureS P o.op sl [] g with | some (p, v) => withP sl g p (k (.put (under g v))) | none => False)
    | .q => (match pureS P o.op sl ce g with | some (p, v) => withP sl g p (k (.put (under g v))) | none => False)
    | .g => (match pureS P o.op sl ce g with | some (p, v) => withP sl g p (nameS v fun v => k (.put (under g v))) | none => False)
    | .x => (match g, pureS P o.op sl [] g with
      | none, some (none, .raw (.bool b)) => (b = true → k (.put (.val (.lit true)))) ∧ (b = false → k (.put (.val (.lit false))))
      | none, some (none, .lit b) => k (.put (.val (.lit b)))
      | _, _ => False)
    | .l n off sz => (match o.op with
      | .load T x => (match ev sl g x with
        | some (.ptr n' off') => (match decEq n' n, decEq off' off, decEq (sizeP P T) sz, loadS P T cs n off with
          | isTrue _, isTrue _, isTrue _, some v => k (.put (under g (.raw v)))
          | _, _, _, _ => False)
        | _ => False)
      | _ => False)
    | .b => (match g, o.op with
      | none, .load T x => (match evV sl [] none x with
        | some a => H.ldb (osOf P o.type) (Instr.loadAt T a) fun v => k (.put (.val (.raw ((osOf P o.type).val v))))
        | none => False)
      | _, _ => False)
    | .r L => (match g, rdS o.op (evV sl [] none) with
      | none, some t => H.ld (osOf P o.type) t (keepL L 0 cs) fun v => k (.put (.val (.raw ((osOf P o.type).val v))))
      | _, _ => False)
    | .a nm => (match g, allocR P o.op (evV sl ce none), o.dst, isNoneCh cs[nm]? with
      | none, some (cells, T, n), some _, true => ∀ b : Nat, k (.made (.val (alS n b nm)) nm b cells T)
      | _, _, _, _ => False)
    | .o nm => (match g, allocR P o.op (evV sl ce none), o.dst, isNoneCh cs[nm]? with
      | none, some (cells, T, some n), some _, true => ∀ b : Nat, k (.ownd (.val (alS (some n) b nm)) nm b cells T)
      | _, _, _, _ => False)
    | .s n off sz => (match g, o.op, o.dst with
      | none, .store T x y, none => (match ev sl none x, evV sl ce none y, cs[n]?, P.underlying T with
        | some (.ptr n' off'), some v, some (.blk b cells T'), some _ => (match decEq n' n, decEq off' off, decEq (sizeP P T) sz, decEq v.cells.size sz, Nat.decLe (off + sz) cells.length with
          | isTrue _, isTrue _, isTrue _, isTrue _, isTrue _ => withOne P T v.cells.toList <| k (.stored n off v.cells.toList)
          | _, _, _, _, _ => False)
        | _, _, _, _ => False)
      | _, _, _ => False)
    | .h => (match g with
      | none => (match o.op with
        | .load T x => (match evV sl cs none x with
          | some a => H.ld (osOf P o.type) (Instr.loadAt T a) cs fun v => k (.put (.val (.raw ((osOf P o.type).val v))))
          | none => False)
        | _ => (match lostOk cs fm with
          | true => hardS P H o (evV sl cs none) cs fm fun v y => k (.hard v y)
          | false => False))
      | some _ => False)
def ceOf (kd : Option (St → Option (Nat × Bool) → Kd)) (cs : List Ch) : List Ch := match kd with | some _ => cs | none => []
/-- One operation of a region. -/
def stepK (P : Program) (H : HOps) (fm : List (Nat × CF)) (ops : Array Oper) (kd : Option (St → Option (Nat × Bool) → Kd)) (kd' : Kd) (o : Oper) (st : St) (k : St → Prop) : Prop :=
  match st.free o.dst with
  | false => False
  | true =>
  match guardS ops o (seeS (o.looksAt ops) st.sl) with
  | .bad => False
  | .skip => k (st.put o.dst (.val (.raw undef)))
  | .run g => core P H fm (kdOf kd kd' st g) o g (seeS (o.looksAt ops) st.sl) st.cs (ceOf kd st.cs) fun e => k (st.app o.dst e)
def stepOp (P : Program) (H : HOps) (an : Ann) (rid : Nat) (ops : Array Oper) (i : Nat) (st : St) (k : St → Prop) : Prop :=
  match ops[i]? with
  | none => False
  | some o => stepK P H (find2 rid i an.fm) ops (some (autoK P an rid i o)) .p o st k
def runOps (P : Program) (H : HOps) (an : Ann) (rid : Nat) (ops : Array Oper) : List Nat → St → (St → Prop) → Prop
  | [], st, k => k st
  | i :: r, st, k => stepOp P H an rid ops i st fun st' => runOps P H an rid ops r st' k
/-- A region that draws its order: in the order of the annotation. -/
def runDraw (P : Program) (H : HOps) (fm : Nat → List (Nat × CF)) (ops : Array Oper) : List (Nat × Kd) → St → (St → Prop) → Prop
  | [], st, k => k st
  | (i, kd) :: r, st, k => (match ops[i]? with
    | none => False
    | some o => stepK P H (fm i) ops none kd o st fun st' => runDraw P H fm ops r st' k)

end Go.SL
