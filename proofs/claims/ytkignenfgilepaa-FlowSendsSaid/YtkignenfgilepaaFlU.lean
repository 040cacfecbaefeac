/- Contracts: FlowSends' helpers. -/
import Derived.Test.YtkignenfgilepaaFlR
import Derived.Test.YtkignenfgilepaaFlT
open Go Go.SL Go.Proofs
set_option maxRecDepth 100000
set_option linter.unusedVariables false
namespace Go.Proofs.FlowVc
theorem Both_ok {W : World} {g : Hp} (hg : In W g) {A : Option Addr} {c : Nat} (rs : List Bx) (hA : Rd g A (rs.map Bx.cell)) (hrs : ∀ x ∈ rs, x.ok g) (hn : rs.length ≤ 1000) (hl : (rs.flatMap Bx.d).length ≤ 10000000) :
    Ok Try.prog 15 #[Vs A rs.length c] W Hp.emp fun r h' _ => ∃ A' c', r = Vs A' (rs.flatMap Bx.d).length c' ∧ Row 5 1 (A', (rs.flatMap Bx.d).length, c') (bts (rs.flatMap Bx.d)) h' := by
  have hb : Base ⟨W, Hp.emp⟩ g := ⟨hg, Disj.emp_left _⟩
  refine exec_ok' (P := Try.prog) a15 (fn := Try.f15) (by kernel_rfl) (args := [.raw (Vs A rs.length c)]) (cs := [.none]) (vs := [Vs A rs.length c]) rfl (by kernel_rfl) (In.emp W) (satL_none rfl) (R := fun r h' => ∃ A' c', r = Vs A' (rs.flatMap Bx.d).length c' ∧ Row 5 1 (A', (rs.flatMap Bx.d).length, c') (bts (rs.flatMap Bx.d)) h') ?_
  rw [v15]
  refine ⟨fun x y => ∃ (i : Nat) (A' : Option Addr) (c' : Nat), i ≤ rs.length ∧ x = ((A', ((rs.take i).flatMap Bx.d).length, c'), (i : Int), pU) ∧ ∀ h, y.1 h → Row 5 1 (A', ((rs.take i).flatMap Bx.d).length, c') (bts ((rs.take i).flatMap Bx.d)) h,
    fun x y => rs.length - x.2.1.toNat, ⟨(fun h => h = Hp.emp, pU), ent_ownE rfl ent_nil, 0, none, 0, by omega, rfl, fun h e => by rw [e]; exact Row.nil _ _ _⟩, ?_⟩
  rintro x ⟨O, _⟩ ⟨i, A', c', hi, rfl, hO⟩
  simp only at hO ⊢
  refine ⟨fun h => ?_, fun h => ?_⟩
  · have hlt : i < rs.length := by have := of_decide_eq_true h; omega
    have hne : A ≠ none := hA.some (by rw [List.length_map]; omega)
    have hm : rs[i] ∈ rs := List.getElem_mem hlt
    have hcell : (rs.map Bx.cell)[i * 1]? = some (oS.val (rs[i].A, rs[i].d.length, rs[i].c)) := by
      rw [Nat.mul_one, List.getElem?_map, List.getElem?_eq_getElem hlt]; rfl
    have ht : (rs.take (i + 1)).flatMap Bx.d = (rs.take i).flatMap Bx.d ++ rs[i].d := by
      rw [List.take_succ_eq_append_getElem hlt, List.flatMap_append]; simp
    have hle : ((rs.take (i + 1)).flatMap Bx.d).length ≤ (rs.flatMap Bx.d).length := by
      have : rs.flatMap Bx.d = (rs.take (i + 1)).flatMap Bx.d ++ (rs.drop (i + 1)).flatMap Bx.d := by rw [← List.flatMap_append, List.take_append_drop]
      rw [this, List.length_append]; omega
    rw [ht, List.length_append] at hle
    rw [Int.toNat_natCast]
    refine ⟨⟨hne, by omega, by omega⟩, ldB_cell hb hA one30 (rs[i].A, rs[i].d.length, rs[i].c) hcell ?_⟩
    simp only
    refine v_append2 0 el30 rfl hO hb (src_base (hrs _ hm).1 (by rw [bts_len]; omega) (bts_one _) slc30) (by unfold maxLen; omega) (by omega) fun A2 c2 O' hO' x1 hx1 => ?_
    rw [wr_id (by omega) (by omega)] at hx1
    subst hx1
    refine ⟨(O', pU), ent_same ent_nil, ⟨i + 1, A2, c2, by omega, ?_, fun h o => ?_⟩, by omega⟩
    · rw [ht, List.length_append]; rfl
    · rw [ht, List.length_append, bts_append]; exact hO' h o
  · have he : i = rs.length := by have := of_decide_eq_false h; omega
    subst he
    rw [List.take_length] at hO
    exact q_own 0 rfl fun h' o => ⟨A', c', by rw [List.take_length]; rfl, hO _ o⟩
/-- The document's sender. -/
def RdO (A : Option Addr) (c : Nat) (all : List UInt8) (h : Hp) : Prop := Rd h A (bts all) ∧ all.length ≤ c
def RSnd (b : Nat) (size first : Int) (all : List UInt8) (h : Hp) : Prop := ∃ A c, Sep (Bk b [Vi size, Vs A all.length c, Vi first] 55) (RdO A c all) h
theorem RdO.row {A : Option Addr} {n c : Nat} {l : List UInt8} {h : Hp} (r : Row 5 1 (A, n, c) (bts l) h) (hn : n = l.length) : RdO A c l h := by
  subst hn; exact ⟨r.rd, r.2.1⟩
theorem refWrite_ok {W : World} {g h : Hp} (hg : In W g) (hin : In W h) (dg : Disj h g) {b : Nat} {size : Int} {first : Nat} {all : List UInt8} (hh : RSnd b size first all h) (hf : first ≤ all.length) (hsz : ((all.length : Int) - first) ≤ size) (hs2 : size ≤ 70000) (hal : all.length ≤ 100000)
    {B : Option Addr} {s : List UInt8} {cb : Nat} (rd : Rd g B (bts s)) (hs : s.length ≤ cb) (hsl : s.length ≤ 100000) :
    Ok Try.prog 28 #[Vp (some ⟨b, 0, none⟩), Vs B s.length cb] W h fun r h' _ => r = .tuple #[Vi ((min s.length (size - ((all.length - first : Nat) : Int)).toNat : Nat) : Int), Vi 0] ∧ RSnd b size first (all ++ s.take (min s.length (size - ((all.length - first : Nat) : Int)).toNat)) h' := by
  obtain ⟨A, c, h1, h2, d12, rfl, hb1, hrow⟩ := hh
  have hb : Base ⟨W, h1.un h2⟩ g := ⟨hg, dg⟩
  obtain ⟨k, hkk⟩ : ∃ k, min s.length (size - ((all.length - first : Nat) : Int)).toNat = k := ⟨_, rfl⟩
  rw [hkk]
  refine exec_ok' (P := Try.prog) a28 (fn := Try.f28) (by kernel_rfl) (args := [.ptr 0 0, .raw (Vs B s.length cb)]) (cs := [.blk b [Vi size, Vs A all.length c, Vi first] 55, .own (RdO A c all), .none, .none]) (vs := [Vp (some ⟨b, 0, none⟩), Vs B s.length cb]) rfl (by kernel_rfl) hin
    ⟨h1, h2, d12, rfl, hb1, h2, Hp.emp, Disj.emp_right _, (Hp.un_emp _).symm, hrow, satL_none (satL_none rfl)⟩ (R := fun r h' => r = .tuple #[Vi (k : Int), Vi 0] ∧ RSnd b size first (all ++ s.take k) h') ?_
  rw [v28]
  intro x hx
  have hxk : x = (k : Int) := by
    rw [hx, wr_id (n := (all.length : Int) - (first : Int)) (by omega) (by omega), wr_id (by omega) (by omega)]
    split <;> omega
  subst hxk
  clear hx
  refine ⟨⟨by omega, by omega⟩, fun b1 => ?_⟩
  rw [Int.toNat_natCast, subA_zero]
  have htl : (s.take k).length = k := by simp; omega
  refine call_make 3 (by kernel_rfl) rfl hb fun W' h' i s' ig d1 => ?_
  have hboth := Both_ok (W := W') (g := h'.un g) (i.un ig) (A := some ⟨b1, 0, none⟩) (c := 2) [⟨A, c, all⟩, ⟨B, cb, s.take k⟩] (by
      have := rd_blkc (cs := [.blk b [Vi size, Vs A all.length c, Vi first] 55, .own (RdO A c all), .blk b1 [Vs A all.length c, Vs B k cb] 30, .none]) 2 rfl h' s'
      have e : [(⟨A, c, all⟩ : Bx), ⟨B, cb, s.take k⟩].map Bx.cell = [Vs A all.length c, Vs B k cb] := by simp [Bx.cell, htl]
      rw [e]
      exact this.left) (by
      intro y hy
      simp only [List.mem_cons, List.not_mem_nil, or_false] at hy
      rcases hy with rfl | rfl
      · obtain ⟨k1, s2, hsub⟩ := satL_sub s' (i := 1) rfl
        exact ⟨(s2.1.mono hsub).left, s2.2⟩
      · exact ⟨by rw [← bts_take]; exact (rd.take k).right d1, by simp only [htl]; omega⟩) (by simp) (by simp [htl]; omega)
  have ef : [(⟨A, c, all⟩ : Bx), ⟨B, cb, s.take k⟩].flatMap Bx.d = all ++ s.take k := by simp
  rw [ef] at hboth
  refine Ok.mono hboth fun r h'' W'' _ _ ⟨A', c', hr, ho⟩ => ⟨(A', (all ++ s.take k).length, c'), _, hr, ho, ?_⟩
  exact q_two 0 3 rfl rfl (by decide) fun g1 g2 dd s1 s2 => ⟨rfl, A', c', g1, g2, dd, rfl, s1, RdO.row s2 rfl⟩
/-- What the document's Peek answers. -/
def rpeekF (first : Int) (all : List UInt8) (x y : Int) : Option (List UInt8) :=
  if x < first ∨ x > all.length ∨ y < 0 then none else some ((all.drop x.toNat).take y.toNat)
theorem refPeek_ok {W : World} {h : Hp} (hin : In W h) {b : Nat} {size : Int} {first : Nat} {all : List UInt8} {A : Option Addr} {c : Nat} (hh : Sep (Bk b [Vi size, Vs A all.length c, Vi first] 55) (RdO A c all) h) (hal : all.length ≤ 100000) (x y : Int) (hx : -9223372036854775808 ≤ x ∧ x ≤ 9223372036854775807) (hy : -9223372036854775808 ≤ y ∧ y ≤ 9223372036854775807) :
    Ok Try.prog 30 #[Vp (some ⟨b, 0, none⟩), Vi x, Vi y] W h fun r h' _ => match rpeekF first all x y with
      | none => r = .tuple #[Vs none 0 0, Vi 1] ∧ Sep (Bk b [Vi size, Vs A all.length c, Vi first] 55) (RdO A c all) h'
      | some l => ∃ A' c', r = .tuple #[Vs A' l.length c', Vi 0] ∧ Sep (Sep (Bk b [Vi size, Vs A all.length c, Vi first] 55) (RdO A c all)) (Row 5 1 (A', l.length, c') (bts l)) h' := by
  obtain ⟨h1, h2, d12, rfl, hb1, hrow⟩ := hh
  refine exec_ok' (P := Try.prog) a30 (fn := Try.f30) (by kernel_rfl) (args := [.ptr 0 0, .raw (Vi x), .raw (Vi y)]) (cs := [.blk b [Vi size, Vs A all.length c, Vi first] 55, .own (RdO A c all), .none, .none]) (vs := [Vp (some ⟨b, 0, none⟩), Vi x, Vi y]) rfl (by kernel_rfl) hin
    ⟨h1, h2, d12, rfl, hb1, h2, Hp.emp, Disj.emp_right _, (Hp.un_emp _).symm, hrow, satL_none (satL_none rfl)⟩ (R := fun r h' => match rpeekF first all x y with
      | none => r = .tuple #[Vs none 0 0, Vi 1] ∧ Sep (Bk b [Vi size, Vs A all.length c, Vi first] 55) (RdO A c all) h'
      | some l => ∃ A' c', r = .tuple #[Vs A' l.length c', Vi 0] ∧ Sep (Sep (Bk b [Vi size, Vs A all.length c, Vi first] 55) (RdO A c all)) (Row 5 1 (A', l.length, c') (bts l)) h') ?_
  rw [v30]
  refine ⟨fun h => ?_, fun h n hn => ?_⟩
  · have hc : x < (first : Int) ∨ x > (all.length : Int) ∨ y < 0 := by simp at h; omega
    have e : rpeekF first all x y = none := if_pos hc
    rw [e]
    exact q_two 0 1 rfl rfl (by decide) fun g1 g2 dd s1 s2 => ⟨rfl, g1, g2, dd, rfl, s1, s2⟩
  · have hc : ¬ (x < (first : Int) ∨ x > (all.length : Int) ∨ y < 0) := by simp at h; omega
    have e : rpeekF first all x y = some ((all.drop x.toNat).take y.toNat) := if_neg hc
    rw [e]
    subst hn
    obtain ⟨u, rfl⟩ : ∃ u : Nat, x = (u : Int) := ⟨x.toNat, by omega⟩
    obtain ⟨v, rfl⟩ : ∃ v : Nat, y = (v : Int) := ⟨y.toNat, by omega⟩
    simp only [Int.toNat_natCast]
    obtain ⟨l, hl⟩ : ∃ l, (all.drop u).take v = l := ⟨_, rfl⟩
    have hll : l.length = min v (all.length - u) := by rw [← hl]; simp
    rw [hl]
    rw [wr_id (n := (all.length : Int) - (u : Int)) (by omega) (by omega)]
    refine ⟨fun j _ => j.1 = ((u + l.length : Nat) : Int), ⟨fun h x2 hx2 => ?_, fun h => ?_⟩, ?_⟩
    · have h2 := of_decide_eq_true h
      rw [wr_id (by omega) (by omega)] at hx2
      exact ⟨pU, Ent.refl _, by simp only; omega⟩
    · have h2 := of_decide_eq_false h
      exact ⟨pU, Ent.refl _, by simp only; omega⟩
    · rintro ⟨j, _⟩ _ hj
      simp only at hj
      subst hj
      have hlc := hrow.2
      refine ⟨⟨by omega, by simp only; omega, by simp only; omega⟩, fun b1 => ?_⟩
      simp only [Int.toNat_natCast, Nat.add_sub_cancel_left]
      refine call_make 2 (by kernel_rfl) rfl (Base.emp _) fun W' h' i s' ig d1 => ?_
      have hboth := Both_ok (W := W') (g := h') i (A := some ⟨b1, 0, none⟩) (c := 1) [⟨subA A c u 1, c - u, l⟩] (by
          exact rd_blkc (cs := [.blk b [Vi size, Vs A all.length c, Vi first] 55, .own (RdO A c all), .none, .blk b1 [Vs (subA A c u 1) l.length (c - u)] 30]) 3 rfl h' s') (by
          intro y hy
          rw [List.mem_singleton.1 hy]
          obtain ⟨k1, s2, hsub⟩ := satL_sub s' (i := 1) rfl
          have := (s2.1.mono hsub).subA (n := all.length) (size := 1) (c := c) (by rw [bts_len]; omega) hlc u (by omega)
          rw [Nat.mul_one, bts_drop] at this
          have := this.take v
          rw [bts_take, hl] at this
          exact ⟨this, by simp only; omega⟩) (by simp) (by simp; omega)
      have ef : [(⟨subA A c u 1, c - u, l⟩ : Bx)].flatMap Bx.d = l := by simp
      rw [ef] at hboth
      refine Ok.mono hboth fun r h'' W'' _ _ ⟨A', c', hr, ho⟩ => ⟨(A', l.length, c'), _, hr, ho, ?_⟩
      refine fin3 fun g1 g2 g3 d1 d2 s1 s2 s3 => ⟨A', c', rfl, g1.un g2, g3, disj_un_left.2 ⟨(disj_un_right.1 d1).2, d2⟩, (Hp.un_assoc _ _ _).symm, ⟨g1, g2, (disj_un_right.1 d1).1, rfl, s1, s2⟩, s3⟩
theorem refDrop_ok {W : World} {h : Hp} (hin : In W h) {b : Nat} {size : Int} {first : Nat} {A : Option Addr} {n c : Nat} (hh : Bk b [Vi size, Vs A n c, Vi first] 55 h) (hf : first ≤ n) (hal : n ≤ 100000) (x : Int) :
    Ok Try.prog 32 #[Vp (some ⟨b, 0, none⟩), Vi x] W h fun r h' _ => if (first : Int) ≤ x ∧ x ≤ n then r = .tuple #[Vi (x - first), Vi 0] ∧ Bk b [Vi size, Vs A n c, Vi x] 55 h' else r = .tuple #[Vi 0, Vi 1] ∧ Bk b [Vi size, Vs A n c, Vi first] 55 h' := by
  refine exec_ok' (P := Try.prog) a32 (fn := Try.f32) (by kernel_rfl) (args := [.ptr 0 0, .raw (Vi x)]) (cs := [.blk b [Vi size, Vs A n c, Vi first] 55]) (vs := [Vp (some ⟨b, 0, none⟩), Vi x]) rfl (by kernel_rfl) hin (satL_one hh)
    (R := fun r h' => if (first : Int) ≤ x ∧ x ≤ n then r = .tuple #[Vi (x - first), Vi 0] ∧ Bk b [Vi size, Vs A n c, Vi x] 55 h' else r = .tuple #[Vi 0, Vi 1] ∧ Bk b [Vi size, Vs A n c, Vi first] 55 h') ?_
  rw [v32]
  refine ⟨fun h => ?_, fun h => ?_⟩
  · have hc : ¬ ((first : Int) ≤ x ∧ x ≤ n) := by simp at h; omega
    exact q_blk 0 rfl fun h' s => by rw [if_neg hc]; exact ⟨rfl, s⟩
  · have hc : (first : Int) ≤ x ∧ x ≤ n := by simp at h; omega
    rw [wr_id (by omega) (by omega)]
    exact q_blk 0 rfl fun h' s => by rw [if_pos hc]; exact ⟨rfl, s⟩
/-- A call of a script as it lies. -/
structure Opx where
  call : Int
  at_ : Int
  n : Int
  A : Option Addr
  c : Nat
  d : List UInt8
def Opx.cells (p : Opx) : List Value := [Vi p.call, Vi p.at_, Vi p.n, Vs p.A p.d.length p.c]
def Opx.ok (h : Hp) (p : Opx) : Prop := Rd h p.A (bts p.d) ∧ p.d.length ≤ p.c ∧ p.d.length ≤ 140737488355328 ∧ (-9223372036854775808 ≤ p.call ∧ p.call ≤ 9223372036854775807) ∧ (-9223372036854775808 ≤ p.at_ ∧ p.at_ ≤ 9223372036854775807) ∧ (-9223372036854775808 ≤ p.n ∧ p.n ≤ 9223372036854775807)
theorem cells4 (p : Opx) : p.cells.length = 4 := rfl
def total (os : List Opx) : Nat := (os.map fun o => o.d.length).sum
theorem few_ok {W : World} {g : Hp} (hg : In W g) {A : Option Addr} {c : Nat} (os : List Opx) (hA : Rd g A (os.flatMap Opx.cells)) (hos : ∀ o ∈ os, o.ok g) (hl : os.length ≤ 9223372036854775807) :
    Ok Try.prog 12 #[Vs A os.length c] W Hp.emp fun r h' _ => r = Vo (decide (os.length ≤ 60) && decide (total os ≤ 3000)) := by
  have hb : Base ⟨W, Hp.emp⟩ g := ⟨hg, Disj.emp_left _⟩
  refine exec_ok' (P := Try.prog) a12 (fn := Try.f12) (by kernel_rfl) (args := [.raw (Vs A os.length c)]) (cs := []) (vs := [Vs A os.length c]) rfl (by kernel_rfl) (In.emp W) rfl (R := fun r h' => r = Vo (decide (os.length ≤ 60) && decide (total os ≤ 3000))) ?_
  rw [v12]
  refine ⟨fun h => q_none ?_, fun h => ?_⟩
  · have : ¬ os.length ≤ 60 := by have := of_decide_eq_true h; omega
    rw [decide_eq_false this]; rfl
  · have h60 : os.length ≤ 60 := by have := of_decide_eq_false h; omega
    refine ⟨fun x _ => ∃ i, i ≤ os.length ∧ x = ((total (os.take i) : Int), (i : Int), pU) ∧ total (os.take i) ≤ 140737488355328 * i, fun x _ => os.length - x.2.1.toNat, ⟨pU, ent_nil, 0, by omega, rfl, by simp [total]⟩, ?_⟩
    rintro x _ ⟨i, hi, rfl, ht⟩
    simp only
    refine ⟨fun h => ?_, fun h => ?_⟩
    · have hlt : i < os.length := by have := of_decide_eq_true h; omega
      have hfl := flat_len Opx.cells 4 cells4 os
      have hne : A ≠ none := hA.some (by omega)
      have hm := hos _ (List.getElem_mem hlt)
      have hts : total (os.take (i + 1)) = total (os.take i) + os[i].d.length := by
        unfold total
        rw [List.take_succ_eq_append_getElem hlt, List.map_append, List.sum_append]
        simp only [List.map_cons, List.map_nil, List.sum_cons, List.sum_nil, Nat.add_zero]
      rw [Int.toNat_natCast]
      refine ⟨⟨hne, by omega, by omega⟩, ldB_cellf hb (k := i * 4) (f := 3) hA one30 (os[i].A, os[i].d.length, os[i].c) ?_ ?_⟩
      · rw [flat_cell Opx.cells 4 cells4 os i 3 hlt (by omega)]; rfl
      · intro x1 hx1 x2 hx2
        have h3 := hm.2.2.1
        simp only at hx1
        rw [wr_id (by omega) (by omega)] at hx1 hx2
        subst hx1 hx2
        exact ⟨pU, ent_nil, ⟨i + 1, by omega, by rw [hts]; simp, by omega⟩, by omega⟩
    · have he : i = os.length := by have := of_decide_eq_false h; omega
      subst he
      refine q_none ?_
      rw [List.take_length, decide_eq_true h60]
      show Vo _ = _
      rw [Bool.true_and]
      congr 1
      by_cases hc : total os ≤ 3000
      · rw [decide_eq_true hc, decide_eq_true (by omega)]
      · rw [decide_eq_false hc, decide_eq_false (by omega)]
end Go.Proofs.FlowVc
