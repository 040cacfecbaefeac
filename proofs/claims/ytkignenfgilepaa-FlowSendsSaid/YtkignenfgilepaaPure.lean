/- A pure operation yields what the executor says, in every world. -/
import Derived.Test.YtkignenfgilepaaExec
import Derived.Laws.Sem
import Derived.Laws.Entries
namespace Go.SL
open Go Go.RowKit
set_option linter.unusedVariables false
set_option linter.unusedSimpArgs false
variable {P : Program}

def PR.okV (P : Program) (r : PR) (s : Sem Value) : Prop :=
  match r with
  | .no => True
  | .val v => ∀ W, s.run P W = .ok v W
  | .pre p v => p → ∀ W, s.run P W = .ok v W

theorem eqGuard_int (op : BinOp) (T : TypeId) (x y : Operand) (k : IntKind) (n : Int) (v : Value) : eqGuard op T x y (.int k n) v = pure () := by cases op <;> rfl
theorem eqGuard_str (op : BinOp) (T : TypeId) (x y : Operand) (s : ByteArray) (v : Value) : eqGuard op T x y (.string s) v = pure () := by cases op <;> rfl

theorem eqGuard_iff (op : BinOp) (T : TypeId) (x y : Operand) (u : TypeId) (v w : Value) : eqGuard op T x y (.iface u v) w = pure () := by cases op <;> rfl
theorem eqGuard_nif (op : BinOp) (T : TypeId) (x y : Operand) (u : TypeId) (v : Value) : eqGuard op T x y .nilIface (.iface u v) = pure () := by cases op <;> rfl
theorem eqGuard_nn (op : BinOp) (T : TypeId) (x y : Operand) (h : (isConst x || isConst y) = true) : eqGuard op T x y .nilIface .nilIface = pure () := by
  cases x <;> cases y <;> first | (cases h; done) | (cases op <;> rfl)
theorem eqGuard_bool (op : BinOp) (T : TypeId) (x y : Operand) (b : Bool) (v : Value) : eqGuard op T x y (.bool b) v = pure () := by cases op <;> rfl
theorem eqGuard_ptr (op : BinOp) (T : TypeId) (x y : Operand) (b : Option Addr) (v : Value) : eqGuard op T x y (.pointer b) v = pure () := by cases op <;> rfl
theorem eqGuard_slc (op : BinOp) (T : TypeId) (x y : Operand) (b : Option Addr) (n c : Nat) (v : Value) : eqGuard op T x y (.slice b n c) v = pure () := by cases op <;> rfl

theorem constInt_eq {yo : Operand} {n : Int} (h : constInt yo = some n) : ∃ k, yo = .const (.int k n) := by
  unfold constInt at h
  split at h
  · cases h; exact ⟨_, rfl⟩
  · cases h

theorem intBin_ok (op : BinOp) (T : TypeId) (k : IntKind) (x y : Int) (yc : Option Int) (hs : isShift op = false) (hy : ∀ n, yc = some n → y = n) :
    (intBin op k x y yc).okV P (binOp op T (.int k x) (.int k y)) := by
  cases op <;> simp only [intBin, isShift] at * <;> try (first | (cases hs; done) | (intro W; simp [binOp, Op.intArith, Op.intBits, Op.intCmp, Op.intDiv]; done))
  · cases yc with
    | none => intro hp W; simp [binOp, Op.intDiv, hp]
    | some n =>
      obtain rfl := hy n rfl
      dsimp only
      split
      · trivial
      · rename_i hne _; intro W; simp [binOp, Op.intDiv, hne]
  · cases yc with
    | none => intro hp W; simp [binOp, Op.intDiv, hp]
    | some n =>
      obtain rfl := hy n rfl
      dsimp only
      split
      · trivial
      · rename_i hne _; intro W; simp [binOp, Op.intDiv, hne]

theorem shiftBin_ok (op : BinOp) (T : TypeId) (k k' : IntKind) (x y : Int) (yc : Option Int) (hy : ∀ n, yc = some n → y = n) :
    (shiftBin op k x y yc).okV P (binOp op T (.int k x) (.int k' y)) := by
  unfold shiftBin
  cases yc with
  | none =>
    cases op <;> dsimp only <;> first | trivial | (intro hp W; simp [binOp, Op.shift, hp]; done)
  | some n =>
    obtain rfl := hy n rfl
    dsimp only
    split
    · trivial
    · rename_i hne _
      cases op <;> dsimp only <;> first | trivial | (intro W; simp [binOp, Op.shift, hne]; done)

theorem strBin_ok (op : BinOp) (T : TypeId) (x y : ByteArray) : (strBin op x y).okV P (binOp op T (.string x) (.string y)) := by
  cases op <;> simp only [strBin] <;> first | trivial | (intro W; simp [binOp, Op.stringOp]; done) | (intro hp W; simp only [binOp, Op.stringOp]; rw [if_neg hp]; rfl)

theorem run_underlyingP {T : TypeId} {d : TypeDesc} (h : P.underlying T = some d) (W : World) : (underlying T).run P W = .ok d W := by
  simp [underlying, h]

theorem equal_of {T : TypeId} {x y : Value} {b : Bool} (h : ∀ W, (Op.equalIn 10000 T x y).run P W = .ok b W) (W : World) :
    (Op.equal T x y).run P W = .ok b W := h W

theorem binOp_eql_run {T : TypeId} {x y : Value} {b : Bool} (hx : ∀ k n, x ≠ .int k n) (hy : ∀ s, x ≠ .string s) (hf : ∀ k n, x ≠ .float k n) (hc : ∀ k a b, x ≠ .complex k a b)
    (h : ∀ W, (Op.equal T x y).run P W = .ok b W) (W : World) : (binOp .eql T x y).run P W = .ok (.bool b) W := by
  cases x <;> cases y <;> first
    | (exact absurd rfl (hx _ _))
    | (exact absurd rfl (hy _))
    | (exact absurd rfl (hf _ _))
    | (exact absurd rfl (hc _ _ _))
    | (simp only [binOp]; simp [h W])
theorem binOp_neq_run {T : TypeId} {x y : Value} {b : Bool} (hx : ∀ k n, x ≠ .int k n) (hy : ∀ s, x ≠ .string s) (hf : ∀ k n, x ≠ .float k n) (hc : ∀ k a b, x ≠ .complex k a b)
    (h : ∀ W, (Op.equal T x y).run P W = .ok b W) (W : World) : (binOp .neq T x y).run P W = .ok (.bool !b) W := by
  cases x <;> cases y <;> first
    | (exact absurd rfl (hx _ _))
    | (exact absurd rfl (hy _))
    | (exact absurd rfl (hf _ _))
    | (exact absurd rfl (hc _ _ _))
    | (simp only [binOp]; simp [h W])

section
variable {T : TypeId} (d : Nat) (W : World)
theorem equalIn_bool (h : P.underlying T = some .bool) (a b : Bool) : (Op.equalIn (d + 1) T (.bool a) (.bool b)).run P W = .ok (a == b) W := by
  simp [Op.equalIn, run_underlyingP h]
theorem equalIn_pn {e : TypeId} (h : P.underlying T = some (.pointer e)) (a : Option Addr) : (Op.equalIn (d + 1) T (.pointer a) (.pointer none)).run P W = .ok a.isNone W := by
  cases a <;> simp [Op.equalIn, run_underlyingP h]
theorem equalIn_np {e : TypeId} (h : P.underlying T = some (.pointer e)) (a : Option Addr) : (Op.equalIn (d + 1) T (.pointer none) (.pointer a)).run P W = .ok a.isNone W := by
  cases a <;> simp [Op.equalIn, run_underlyingP h]
theorem equalIn_sn {e : TypeId} (h : P.underlying T = some (.slice e)) (a : Option Addr) (n c m k : Nat) : (Op.equalIn (d + 1) T (.slice a n c) (.slice none m k)).run P W = .ok a.isNone W := by
  cases a <;> simp [Op.equalIn, run_underlyingP h]
theorem equalIn_ns {e : TypeId} (h : P.underlying T = some (.slice e)) (a : Option Addr) (n c m k : Nat) : (Op.equalIn (d + 1) T (.slice none m k) (.slice a n c)).run P W = .ok a.isNone W := by
  cases a <;> simp [Op.equalIn, run_underlyingP h]
theorem equalIn_nn {ms : Array (String × TypeId)} (h : P.underlying T = some (.interface ms)) : (Op.equalIn (d + 1) T .nilIface .nilIface).run P W = .ok true W := by
  simp [Op.equalIn, run_underlyingP h]
theorem equalIn_ni {ms : Array (String × TypeId)} (h : P.underlying T = some (.interface ms)) (u : TypeId) (v : Value) : (Op.equalIn (d + 1) T .nilIface (.iface u v)).run P W = .ok false W := by
  simp [Op.equalIn, run_underlyingP h]
theorem equalIn_in {ms : Array (String × TypeId)} (h : P.underlying T = some (.interface ms)) (u : TypeId) (v : Value) : (Op.equalIn (d + 1) T (.iface u v) .nilIface).run P W = .ok false W := by
  simp [Op.equalIn, run_underlyingP h]
end

/-- What eqBin tells is what '==' finds, and the guard lets it by. -/
theorem eqBin_ok {T : TypeId} {x y : Value} {xo yo : Operand} {b : Bool} (h : eqBin P T x y (isConst xo) (isConst yo) = some b) :
    (∀ k n, x ≠ .int k n) ∧ (∀ s, x ≠ .string s) ∧ (∀ k n, x ≠ .float k n) ∧ (∀ k a b, x ≠ .complex k a b) ∧ (∀ W, (Op.equal T x y).run P W = .ok b W) ∧ ∀ op W, (eqGuard op T xo yo x y).run P W = .ok () W := by
  unfold eqBin at h
  split at h
  · rename_i hu
    split at h
    · cases h
      exact ⟨by simp, by simp, by simp, by simp, fun W => equalIn_bool 9999 W hu _ _, fun op W => by rw [eqGuard_bool]; rfl⟩
    · cases h
  · rename_i el hu
    split at h
    · cases h
      exact ⟨by simp, by simp, by simp, by simp, fun W => equalIn_pn 9999 W hu _, fun op W => by rw [eqGuard_ptr]; rfl⟩
    · cases h
      exact ⟨by simp, by simp, by simp, by simp, fun W => equalIn_np 9999 W hu _, fun op W => by rw [eqGuard_ptr]; rfl⟩
    · cases h
  · rename_i el hu
    split at h
    · cases h
      exact ⟨by simp, by simp, by simp, by simp, fun W => equalIn_sn 9999 W hu _ _ _ _ _, fun op W => by rw [eqGuard_slc]; rfl⟩
    · cases h
      exact ⟨by simp, by simp, by simp, by simp, fun W => equalIn_ns 9999 W hu _ _ _ _ _, fun op W => by rw [eqGuard_slc]; rfl⟩
    · cases h
  · rename_i ms hu
    split at h
    · split at h
      · rename_i hor
        cases h
        exact ⟨by simp, by simp, by simp, by simp, fun W => equalIn_nn 9999 W hu, fun op W => by rw [eqGuard_nn _ _ _ _ hor]; rfl⟩
      · cases h
    · cases h
      exact ⟨by simp, by simp, by simp, by simp, fun W => equalIn_ni 9999 W hu _ _, fun op W => by rw [eqGuard_nif]; rfl⟩
    · cases h
      exact ⟨by simp, by simp, by simp, by simp, fun W => equalIn_in 9999 W hu _ _, fun op W => by rw [eqGuard_iff]; rfl⟩
    · cases h
  · cases h

theorem okV_bind_unit {r : PR} {s : Sem Unit} {t : Sem Value} (hs : ∀ W, s.run P W = .ok () W) (h : r.okV P t) : r.okV P (do s; t) := by
  cases r with
  | no => trivial
  | val v => intro W; have := h W; simp [hs, this]
  | pre p v => intro hp W; have := h hp W; simp [hs, this]

theorem binR_ok {op : BinOp} {T : TypeId} {xo yo : Operand} {x y : Value} (hy : ∀ v, yo = .const v → y = v) :
    (binR P op T xo yo x y).okV P (do eqGuard op T xo yo x y; binOp op T x y) := by
  unfold binR
  split
  · rename_i k a k' b
    refine okV_bind_unit (fun W => by rw [eqGuard_int]; rfl) ?_
    have hc : ∀ n, constInt yo = some n → b = n := fun n hn => by
      obtain ⟨k, rfl⟩ := constInt_eq hn
      have := hy _ rfl
      injection this
    cases hs : isShift op with
    | true => exact shiftBin_ok op T k k' a b _ hc
    | false =>
      dsimp only
      cases decEq k k' with
      | isTrue e => subst e; exact intBin_ok op T k a b _ hs hc
      | isFalse e => trivial
  · refine okV_bind_unit (fun W => by rw [eqGuard_str]; rfl) (strBin_ok ..)
  · split
    · split
      · rename_i hb
        obtain ⟨h1, h2, h3, h4, h5, h6⟩ := eqBin_ok hb
        exact okV_bind_unit (h6 _) (binOp_eql_run h1 h2 h3 h4 h5)
      · trivial
    · split
      · rename_i hb
        obtain ⟨h1, h2, h3, h4, h5, h6⟩ := eqBin_ok hb
        exact okV_bind_unit (h6 _) (binOp_neq_run h1 h2 h3 h4 h5)
      · trivial
    · trivial

theorem unR_ok (op : UnOp) (x : Value) : (unR op x).okV P (Op.unary op x) := by
  unfold unR
  split
  · intro W; simp [Op.unary, Op.intArith]
  · intro W; simp [Op.unary, Op.intBits]
  · intro W; simp [Op.unary]
  · trivial

end Go.SL
