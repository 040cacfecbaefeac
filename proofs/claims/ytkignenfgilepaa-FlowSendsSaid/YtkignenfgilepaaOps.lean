/- Hard operations, for the prover. -/
import Derived.Test.YtkignenfgilepaaRow
namespace Go.SL
open Go Go.RowKit
set_option linter.unusedVariables false
set_option linter.unusedSimpArgs false
variable {P : Program} {c : Ctx}

/-- Two parts. -/
def Sep (A B : Hp → Prop) (h : Hp) : Prop := ∃ h1 h2, Disj h1 h2 ∧ h = h1.un h2 ∧ A h1 ∧ B h2
def Emp (h : Hp) : Prop := h = Hp.emp
theorem Sep.ofEmp {A : Hp → Prop} {h : Hp} (a : A h) : Sep A Emp h := ⟨h, Hp.emp, Disj.emp_right _, (Hp.un_emp h).symm, a, rfl⟩

theorem v_any {r : OS} {s : Sem Value} {cs : List Ch} {fm : List (Nat × CF)} {k : r.ty → TupF fm → Prop} {g : Hp} (hb : Base c g)
    (H : ∀ W h, In W h → satL cs h → In W g → Disj h g → ∃ hu hr, h = hu.un hr ∧ Disj hu hr ∧
      ∃ x y W' h', s.run P W = .ok (r.val x) W' ∧ In W' h' ∧ Step W hu W' h' ∧ (Disj h' hr → satL (applyF fm y cs) (h'.un hr)) ∧ k x y) : (hops P c).v r s cs fm k := by
  intro W h hf n
  obtain ⟨ig, dg⟩ := hb.step n.step
  obtain ⟨dg1, dg2⟩ := disj_un_left.1 dg
  obtain ⟨hu, hr, rfl, d, x, y, W', h', hrun, hi, hs, hsat, hk⟩ := H W h n.inn n.sat ig dg1
  obtain ⟨d', i2, s2⟩ := hs.frame d ((in_un d).1 n.inn).2
  exact ⟨x, y, W', h'.un hr, hrun, hi.un i2, s2, hsat d', hk⟩
/-- An operation that only reads. -/
theorem v_read {r : OS} {s : Sem Value} {cs : List Ch} {k : r.ty → PUnit → Prop} {g : Hp} (hb : Base c g)
    (H : ∀ W h, In W h → satL cs h → In W g → Disj h g → ∃ x, s.run P W = .ok (r.val x) W ∧ k x pU) : (hops P c).v r s cs [] k := by
  intro W h hf n
  obtain ⟨ig, dg⟩ := hb.step n.step
  obtain ⟨dg1, dg2⟩ := disj_un_left.1 dg
  obtain ⟨x, hr, hk⟩ := H W h n.inn n.sat ig dg1
  exact ⟨x, pU, W, h, hr, n.inn, Step.refl _ _, n.sat, hk⟩
/-- An operation that makes something. -/
theorem v_make (n : Nat) {r : OS} {s : Sem Value} {cs : List Ch} (hn : cs[n]? = some .none) {k : r.ty → TupF [(n, .own)] → Prop} {g : Hp} (hb : Base c g)
    (H : ∀ W h, In W h → satL cs h → In W g → Disj h g → ∃ x W' h' O, s.run P W = .ok (r.val x) W' ∧ In W' h' ∧ Step W Hp.emp W' h' ∧ O h' ∧ k x (O, pU)) : (hops P c).v r s cs [(n, .own)] k :=
  v_any hb fun W h i s ig dg => by
    obtain ⟨x, W', h', O, hr, hi, hs, hO, hk⟩ := H W h i s ig dg
    refine ⟨Hp.emp, h, (Hp.emp_un h).symm, Disj.emp_left _, x, (O, pU), W', h', hr, hi, hs, fun d => ?_, hk⟩
    obtain ⟨h1, h2, _, rfl, s1, hset⟩ := satL_get s hn
    rw [show h1 = Hp.emp from s1, Hp.emp_un] at d ⊢
    exact hset (.own O) h' hO d
/-- An append onto a row that is owned. -/
theorem v_append (n : Nat) {e t tx ty : TypeId} {i : TypeInfo} {z : Value} (ht : P.underlying t = some (.slice e)) (hi : P.info? e = some i) (hz : i.zero = some z) (hzs : z.cells.size = i.size)
    {cs : List Ch} {O D : Hp → Prop} (hn : cs[n]? = some (.own O)) {A : Option Addr} {l cap : Nat} {xs : List Value} (hO : ∀ h, O h → Sep (Row e i.size (A, l, cap) xs) D h)
    {X : Value} {m : Nat} {news : List Value} {g : Hp} (hb : Base c g) (hs : ∀ W h, In W h → satL cs h → In W g → Disj h g → Src P i.size tx X m news W) (hm : l + m ≤ maxLen) (hby : (l + m) * i.bytes ≤ 140737488355328)
    {k : oS.ty → TupF [(n, .own)] → Prop} (hk : ∀ A' cap', k (A', l + m, cap') (Sep (Row e i.size (A', l + m, cap') (xs ++ news)) D, pU)) :
    (hops P c).v oS (Builtin.append_ #[t, tx] ty #[.slice A l cap, X]) cs [(n, .own)] k :=
  v_any hb fun W h ih s ig dg => by
    have hsrc := hs W h ih s ig dg
    obtain ⟨h1, h2, d, rfl, s1, hset⟩ := satL_get s hn
    obtain ⟨h3, h4, d34, rfl, hrow, hD⟩ := hO h1 s1
    obtain ⟨d32, d42⟩ := disj_un_left.1 d
    obtain ⟨i34, i2⟩ := (in_un d).1 ih
    obtain ⟨i3, i4⟩ := (in_un d34).1 i34
    obtain ⟨v', W', h', hrun, hin', hst, hrow', hlen⟩ := row_append (P := P) (t := t) (tx := tx) (ty := ty) ht hi hz hzs i3 hrow hsrc hm hby
    obtain ⟨A', l', cap'⟩ := v'
    simp only at hlen
    subst hlen
    refine ⟨h3, h4.un h2, by rw [Hp.un_assoc], disj_un_right.2 ⟨d34, d32⟩, (A', l + m, cap'), (Sep (Row e i.size (A', l + m, cap') (xs ++ news)) D, pU), W', h', hrun, hin', hst, fun dd => ?_, hk A' cap'⟩
    obtain ⟨dd4, dd2⟩ := disj_un_right.1 dd
    rw [← Hp.un_assoc]
    exact hset (.own _) (h'.un h4) ⟨h', h4, dd4, rfl, hrow', hD⟩ (disj_un_left.2 ⟨dd2, d42⟩)

/-- A new row. -/
theorem row_make {e t : TypeId} {i : TypeInfo} {z : Value} (ht : P.underlying t = some (.slice e)) (hi : P.info? e = some i) (hz : i.zero = some z) {kl kc : IntKind} {l cp : Int} (h0 : 0 ≤ l) (hlc : l ≤ cp)
    (hby : (i.bytes : Int) * cp ≤ 281474976710656) (h63 : cp ≤ 9223372036854775807) (W : World) :
    ∃ W' h', (Instr.makeSlice t (.int kl l) (.int kc cp)).run P W = .ok (.slice (some ⟨W.heap.size, 0, none⟩) l.toNat cp.toNat) W' ∧ In W' h' ∧ Step W Hp.emp W' h' ∧
      Row e i.size (some ⟨W.heap.size, 0, none⟩, l.toNat, cp.toNat) ((madeCells z.cells (cp.toNat * i.size)).toList.take (l.toNat * i.size)) h' := by
  have hr := run_make (P := P) W t e i z ht hi hz kl kc l cp h0 hlc hby h63
  obtain ⟨d, i1, s1⟩ := step_new (W := W) (h := Hp.emp) (In.emp _) (.cells (madeCells z.cells (cp.toNat * i.size)) e (0, 0))
  rw [Hp.un_emp] at i1 s1
  have hsz := size_madeCells z.cells (cp.toNat * i.size)
  have hle : l.toNat * i.size ≤ cp.toNat * i.size := Nat.mul_le_mul_right _ (by omega)
  refine ⟨_, _, hr, i1, s1, ?_, by simp; omega, by simp [maxLen]; omega, .inr ⟨W.heap.size, (madeCells z.cells (cp.toNat * i.size)).toList.drop (l.toNat * i.size), rfl, ?_, ?_⟩⟩
  · rw [List.length_take, Array.length_toList, hsz]; exact Nat.min_eq_left hle
  · rw [List.length_drop, Array.length_toList, hsz, ← Nat.sub_mul]
  · simp
end Go.SL
