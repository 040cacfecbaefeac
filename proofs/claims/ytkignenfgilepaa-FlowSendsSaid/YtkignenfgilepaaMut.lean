/- Rows that are written. -/
import Derived.Test.YtkignenfgilepaaUse
namespace Go.SL
open Go Go.RowKit
set_option linter.unusedVariables false
set_option linter.unusedSimpArgs false
variable {P : Program} {c : Ctx}

theorem setAt_mid : ∀ (vs xs : List Value) (o : Nat), o + vs.length ≤ xs.length → setAt xs o vs = xs.take o ++ vs ++ xs.drop (o + vs.length) := by
  intro vs
  induction vs with
  | nil => intro xs o h; simp [setAt]
  | cons v vs ih =>
    intro xs o h
    simp only [List.length_cons] at h
    simp only [setAt]
    rw [ih _ _ (by simp; omega)]
    rw [List.take_set, List.drop_set, if_pos (by omega), List.length_cons]
    have e1 : xs.take (o + 1) = xs.take o ++ [xs[o]'(by omega)] := by rw [List.take_succ_eq_append_getElem (by omega)]
    rw [e1, List.set_append_right _ _ (by simp; omega)]
    simp only [List.length_take, Nat.min_eq_left (show o ≤ xs.length by omega), Nat.sub_self, List.set_cons_zero, List.append_assoc, List.cons_append, List.nil_append]
    rw [show o + (vs.length + 1) = o + 1 + vs.length by omega]
theorem setAt_appL (vs xs rest : List Value) (o : Nat) (h : o + vs.length ≤ xs.length) : setAt (xs ++ rest) o vs = setAt xs o vs ++ rest := by
  rw [setAt_mid vs (xs ++ rest) o (by simp; omega), setAt_mid vs xs o h, List.take_append_of_le_length (by omega), List.drop_append_of_le_length (by omega)]
  simp
theorem setAt_bts (vs xs : List UInt8) (o : Nat) (h : o + vs.length ≤ xs.length) : setAt (bts xs) o (bts vs) = bts (xs.take o ++ vs ++ xs.drop (o + vs.length)) := by
  rw [setAt_mid _ _ _ (by simp [bts_len]; omega), bts_len, bts_take, bts_drop, bts_append, bts_append]
/-- Some cells of a row are written. -/
theorem row_write {e : TypeId} {sz : Nat} {A : Option Addr} {l cap : Nat} {xs : List Value} {h : Hp} {W : World} (hin : In W h) (row : Row e sz (A, l, cap) xs h) {o : Nat} {vs : List Value} (hle : o + vs.length ≤ xs.length) (h1 : allOne vs = true) :
    ∃ W' h', (storeCells ((oget A).add o) vs 0).run P W = .ok () W' ∧ In W' h' ∧ Step W h W' h' ∧ Row e sz (A, l, cap) (setAt xs o vs) h' := by
  obtain ⟨r1, r2, r3, r4⟩ := row
  simp only at r1 r2 r3 r4
  rcases r4 with ⟨e1, e2⟩ | ⟨b, rest, e1, e2, e3⟩
  · have hl : l = 0 := by omega
    subst hl
    have hx : xs = [] := List.eq_nil_of_length_eq_zero (by simpa using r1)
    subst hx
    have hv : vs = [] := List.eq_nil_of_length_eq_zero (by simp at hle; simp [hle.2])
    subst hv
    exact ⟨W, h, rfl, hin, Step.refl _ _, r1, r2, r3, .inl ⟨e1, e2⟩⟩
  · subst e1 e3
    simp only [oget, Addr.add0, Nat.zero_add]
    have hb : W.heap[b]? = some (.cells (xs ++ rest).toArray e (0, 0)) := hin b _ (by simp [Hp.one])
    obtain ⟨W', hr, a1, a2, a3, a4⟩ := storeCells_run (P := P) o vs 0 (xs ++ rest) W hb (by simp; omega) h1
    rw [Nat.add_zero, setAt_appL _ _ _ _ hle] at a4
    obtain ⟨_, i', s'⟩ := step_write (h := Hp.emp) (Disj.emp_right _) (by rw [Hp.un_emp]; exact hin) a1 a2 a3 a4
    rw [Hp.un_emp] at i' s'
    rw [Hp.un_emp] at s'
    refine ⟨W', _, hr, i', s', by simp only [setAt_length]; exact r1, r2, r3, .inr ⟨b, rest, rfl, e2, rfl⟩⟩
theorem u_any {s : Sem Unit} {cs : List Ch} {fm : List (Nat × CF)} {k : TupF fm → Prop} {g : Hp} (hb : Base c g)
    (H : ∀ W h, In W h → satL cs h → In W g → Disj h g → ∃ hu hr, h = hu.un hr ∧ Disj hu hr ∧
      ∃ y W' h', s.run P W = .ok () W' ∧ In W' h' ∧ Step W hu W' h' ∧ (Disj h' hr → satL (applyF fm y cs) (h'.un hr)) ∧ k y) : (hops P c).u s cs fm k := by
  intro W h hf n
  obtain ⟨ig, dg⟩ := hb.step n.step
  obtain ⟨dg1, dg2⟩ := disj_un_left.1 dg
  obtain ⟨hu, hr, rfl, d, y, W', h', hrun, hi, hs, hsat, hk⟩ := H W h n.inn n.sat ig dg1
  obtain ⟨d', i2, s2⟩ := hs.frame d ((in_un d).1 n.inn).2
  exact ⟨y, W', h'.un hr, hrun, hi.un i2, s2, hsat d', hk⟩
/-- A store into a row that is owned. -/
theorem u_store (n : Nat) {T e : TypeId} {sz : Nat} {cs : List Ch} {O D : Hp → Prop} (hn : cs[n]? = some (.own O)) {A : Option Addr} {l cap : Nat} {xs : List Value} (hO : ∀ h, O h → Sep (Row e sz (A, l, cap) xs) D h)
    {a : Addr} {o : Nat} (ha : a = (oget A).add o) {v : Value} (hu : (P.underlying T).isSome = true) (hsz : v.cells.size = sizeP P T) (hle : o + sizeP P T ≤ xs.length) (h1 : allOne v.cells.toList = true)
    {k : TupF [(n, .own)] → Prop} (hk : k (Sep (Row e sz (A, l, cap) (setAt xs o v.cells.toList)) D, pU)) : (hops P c).u (Instr.storeAt T (.pointer (some a)) v) cs [(n, .own)] k :=
  u_any (Base.emp c) fun W h ih s ig dg => by
    obtain ⟨h1', h2, d, rfl, s1, hset⟩ := satL_get s hn
    obtain ⟨h3, h4, d34, rfl, hrow, hD⟩ := hO h1' s1
    obtain ⟨d32, d42⟩ := disj_un_left.1 d
    obtain ⟨i34, i2⟩ := (in_un d).1 ih
    obtain ⟨i3, i4⟩ := (in_un d34).1 i34
    obtain ⟨W', h', hrun, hin', hst, hrow'⟩ := row_write (P := P) i3 hrow (o := o) (vs := v.cells.toList) (by rw [Array.length_toList, hsz]; exact hle) h1
    obtain ⟨dd, hu⟩ := Option.isSome_iff_exists.1 hu
    obtain ⟨ii, hi⟩ := underlying_info hu
    have hrun' : (Instr.storeAt T (.pointer (some a)) v).run P W = .ok () W' := by
      subst ha
      simp only [Instr.storeAt, Sem.run_bind, storeVar, sizeP_some hi, Result.andThen_ok]
      simp only [Instr.sureAddr, Sem.run_pure, Result.andThen_ok, Sem.run_bind, sizeP_some hi]
      rw [if_neg (by simp [hsz])]
      exact hrun
    refine ⟨h3, h4.un h2, by rw [Hp.un_assoc], disj_un_right.2 ⟨d34, d32⟩, (Sep (Row e sz (A, l, cap) (setAt xs o v.cells.toList)) D, pU), W', h', hrun', hin', hst, fun dd => ?_, hk⟩
    obtain ⟨dd4, dd2⟩ := disj_un_right.1 dd
    rw [← Hp.un_assoc]
    exact hset (.own _) (h'.un h4) ⟨h', h4, dd4, rfl, hrow', hD⟩ (disj_un_left.2 ⟨dd2, d42⟩)
theorem sep_emp {A : Hp → Prop} {h : Hp} (s : Sep A Emp h) : A h := by
  obtain ⟨h1, h2, d, rfl, a, e⟩ := s
  rw [show h2 = Hp.emp from e, Hp.un_emp]; exact a
/-- A byte into a row of bytes. -/
theorem u_byte (n : Nat) {T : TypeId} {cs : List Ch} {O : Hp → Prop} (hn : cs[n]? = some (.own O)) {e : TypeId} {A : Option Addr} {l cap : Nat} {xs : List UInt8} (hO : ∀ h, O h → Row e 1 (A, l, cap) (bts xs) h)
    {a : Addr} {o : Nat} (ha : a = (oget A).add o) (b : UInt8) {v : Int} (hv : v = (b.toNat : Int)) (hu : oneP P T = true) (hle : o < xs.length)
    {k : TupF [(n, .own)] → Prop} (hk : ∀ O' : Hp → Prop, (∀ h, O' h → Row e 1 (A, l, cap) (bts (xs.set o b)) h) → k (O', pU)) : (hops P c).u (Instr.storeAt T (.pointer (some a)) (Vb v)) cs [(n, .own)] k := by
  obtain ⟨hu1, hs1, _⟩ := one_of hu
  subst hv
  refine u_store n (D := Emp) hn (fun h o => Sep.ofEmp (hO h o)) ha hu1 (by rw [hs1]; rfl) (by rw [hs1, bts_len]; omega) rfl (hk _ fun h s => ?_)
  have := sep_emp s
  have e1 : setAt (bts xs) o (Vb (b.toNat : Int)).cells.toList = bts (xs.set o b) := by
    show (bts xs).set o (Vb (b.toNat : Int)) = _
    simp [bts, List.map_set]
  rw [e1] at this
  exact this
/-- What is copied. -/
structure SrcN (P : Program) (sz : Nat) (dl : Nat) (X : Value) (news : List Value) (W : World) : Prop where
  len : ∃ m, (∀ w' : World, (Builtin.lenOf X).run P w' = .ok m w') ∧ news.length = Nat.min m dl * sz ∧ (Builtin.firstCells sz (Nat.min m dl) X).run P W = .ok news.toArray W
  one : allOne news = true
theorem allOne_bts (l : List UInt8) : allOne (bts l) = true := allOne_of (bts_one l)
theorem SrcN.rd {g : Hp} {A : Option Addr} {l : List UInt8} (r : Rd g A (bts l)) {W : World} (i : In W g) (dl : Nat) (cp : Nat) : SrcN P 1 dl (.slice A l.length cp) (bts (l.take dl)) W := by
  refine ⟨⟨l.length, fun _ => rfl, by simp [bts_len, Nat.min_comm], ?_⟩, allOne_bts _⟩
  have r' : Rd g A (bts (l.take dl)) := by rw [← bts_take]; exact r.take dl
  have hl : (bts (l.take dl)).length = Nat.min l.length dl * 1 := by simp [bts_len, Nat.min_comm]
  cases A with
  | none =>
    rcases r' with e | ⟨b, off, cells, T, fz, e, _⟩
    · rw [e]; exact run_firstCells_none W 1 _ _ cp
    · cases e
  | some a => exact run_firstCells_some W 1 _ a _ cp (bts (l.take dl)) hl (fun j u h => r'.cell i h)
theorem SrcN.str (s : List UInt8) (W : World) (dl : Nat) : SrcN P 1 dl (.string (btx s)) (bts (s.take dl)) W := by
  refine ⟨⟨s.length, fun _ => by simp [Builtin.lenOf, btx_size], by simp [bts_len, Nat.min_comm], ?_⟩, allOne_bts _⟩
  show Result.ok _ W = _
  rw [btx_extract]
  congr 1
  apply Array.ext'
  simp [btx, bts]
  first | exact Nat.min_comm _ _ | (rw [List.take_eq_take_iff, Nat.min_comm]; simp)
/-- A copy into a row that is owned. -/
theorem v_copy (n : Nat) {t tx ty e : TypeId} {sz by' : Nat} {z : Value} (he : elemP P t = some (e, sz, by', z)) {cs : List Ch} {O D : Hp → Prop} (hn : cs[n]? = some (.own O)) {A : Option Addr} {l cap : Nat} {xs : List Value}
    (hO : ∀ h, O h → Sep (Row e sz (A, l, cap) xs) D h) {B : Option Addr} {o dl dc : Nat} (hB : dl = 0 ∨ B = some ((oget A).add (o * sz))) (hle : o + dl ≤ l) {X : Value} {news : List Value} {g : Hp} (hb : Base c g)
    (hs : ∀ W h, In W h → satL cs h → In W g → Disj h g → SrcN P sz dl X news W)
    {k : oI.ty → TupF [(n, .own)] → Prop} (hk : ∀ m : Nat, news.length = m * sz → k (m : Int) (Sep (Row e sz (A, l, cap) (setAt xs (o * sz) news)) D, pU)) :
    (hops P c).v oI (Builtin.copy_ #[t, tx] ty #[.slice B dl dc, X]) cs [(n, .own)] k :=
  v_any hb fun W h ih s ig dg => by
    obtain ⟨ht, i, hi, hz, hzs, rfl, rfl⟩ := elem_of he
    obtain ⟨⟨m, hm, hnl, hcells⟩, h1⟩ := hs W h ih s ig dg
    obtain ⟨h1', h2, d, rfl, s1, hset⟩ := satL_get s hn
    obtain ⟨h3, h4, d34, rfl, hrow, hD⟩ := hO h1' s1
    obtain ⟨d32, d42⟩ := disj_un_left.1 d
    obtain ⟨i34, i2⟩ := (in_un d).1 ih
    obtain ⟨i3, i4⟩ := (in_un d34).1 i34
    have hxl : xs.length = l * i.size := hrow.1
    have hmin : Nat.min m dl ≤ dl := Nat.min_le_right _ _
    have hfit : o * i.size + news.length ≤ xs.length := by
      rw [hnl, hxl, ← Nat.add_mul]
      exact Nat.mul_le_mul_right _ (by omega)
    obtain ⟨W', h', hrun, hin', hst, hrow'⟩ := row_write (P := P) i3 hrow (o := o * i.size) (vs := news) hfit h1
    have hrun' : (Builtin.copy_ #[t, tx] ty #[.slice B dl dc, X]).run P W = .ok (.int .i64 ((Nat.min m dl : Nat) : Int)) W' := by
      rcases hB with h0 | hB
      · subst h0
        have hn0 : news = [] := List.eq_nil_of_length_eq_zero (by rw [hnl]; simp)
        subst hn0
        have hW : W' = W := by
          have : (storeCells ((oget A).add (o * i.size)) [] 0).run P W = .ok () W := rfl
          rw [this] at hrun
          cases hrun; rfl
        subst hW
        have hm0 : Nat.min m 0 = 0 := Nat.min_eq_right (Nat.zero_le _)
        rw [hm0] at hcells
        cases B with
        | none => simp [Builtin.copy_, run_underlying ht, hm, sizeOf, typeInfo, hi, hcells]; rfl
        | some a =>
          have : (storeCells a [] 0).run P W' = .ok () W' := rfl
          simp [Builtin.copy_, run_underlying ht, hm, sizeOf, typeInfo, hi, hcells, this]; rfl
      · subst hB
        simp [Builtin.copy_, run_underlying ht, hm, sizeOf, typeInfo, hi, hcells, hrun]; rfl
    refine ⟨h3, h4.un h2, by rw [Hp.un_assoc], disj_un_right.2 ⟨d34, d32⟩, ((Nat.min m dl : Nat) : Int), (Sep (Row e i.size (A, l, cap) (setAt xs (o * i.size) news)) D, pU), W', h', hrun', hin', hst, fun dd => ?_, hk _ hnl⟩
    obtain ⟨dd4, dd2⟩ := disj_un_right.1 dd
    rw [← Hp.un_assoc]
    exact hset (.own _) (h'.un h4) ⟨h', h4, dd4, rfl, hrow', hD⟩ (disj_un_left.2 ⟨dd2, d42⟩)
end Go.SL
