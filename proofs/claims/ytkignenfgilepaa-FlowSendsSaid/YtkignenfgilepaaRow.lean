/- Rows that are owned: append, make, and what is copied. -/
import Derived.Test.YtkignenfgilepaaLib
import Derived.Deep.AppendSrc
import Derived.Laws.MakeOwn
namespace Go.SL
open Go Go.RowKit
set_option linter.unusedVariables false
set_option linter.unusedSimpArgs false
variable {P : Program}

theorem setAt_one (u : Value) (cs : List Value) (off : Nat) : cs.set off u = cs.set off u := rfl
theorem setAt_app : ∀ (vs : List Value) (xs rest : List Value), vs.length ≤ rest.length → setAt (xs ++ rest) xs.length vs = xs ++ vs ++ rest.drop vs.length := by
  intro vs
  induction vs with
  | nil => intro xs rest h; simp [setAt]
  | cons v vs ih =>
    intro xs rest h
    cases rest with
    | nil => simp at h
    | cons r rest =>
      simp only [setAt]
      have h1 : (xs ++ r :: rest).set xs.length v = (xs ++ [v]) ++ rest := by
        rw [List.set_append_right _ _ (Nat.le_refl _)]
        simp
      have := ih (xs ++ [v]) rest (by simpa using h)
      simp only [List.length_append, List.length_singleton] at this
      rw [h1, this]
      simp

theorem allOne_of {vs : List Value} (h : ∀ u ∈ vs, u.oneCell' = true) : allOne vs = true := by
  induction vs with
  | nil => rfl
  | cons v r ih =>
    have h0 := h v (by simp)
    have hr := ih (fun u hu => h u (by simp [hu]))
    cases v <;> first | exact hr | (simp [Value.oneCell'] at h0; done)
theorem Rd.first {g : Hp} {A : Option Addr} {xs : List Value} (r : Rd g A xs) {W : World} (i : In W g) {n size c : Nat} (hl : xs.length = n * size) : (Builtin.firstCells size n (.slice A n c)).run P W = .ok xs.toArray W := by
  cases A with
  | none =>
    rcases r with e | ⟨b, off, cells, T, fz, e, _⟩
    · subst e; exact run_firstCells_none W size n n c
    · cases e
  | some a => exact run_firstCells_some W size n a n c xs hl (fun j u h => r.cell i h)
theorem Src.rd {g : Hp} {A : Option Addr} {news : List Value} (r : Rd g A news) {W : World} (i : In W g) {m c size : Nat} (hl : news.length = m * size) (h1 : ∀ u ∈ news, u.oneCell' = true) {tx e' : TypeId} (hk : P.underlying tx = some (.slice e')) :
    Src P size tx (.slice A m c) m news W :=
  ⟨.inl ⟨e', hk⟩, fun _ => rfl, r.first i hl, r.first (In.drew i) hl, hl, h1⟩

theorem row_append {e t tx ty : TypeId} {i : TypeInfo} {z : Value} (ht : P.underlying t = some (.slice e)) (hi : P.info? e = some i) (hz : i.zero = some z) (hzs : z.cells.size = i.size)
    {v : Option Addr × Nat × Nat} {xs : List Value} {h : Hp} {W : World} (hin : In W h) (row : Row e i.size v xs h) {X : Value} {m : Nat} {news : List Value} (hs : Src P i.size tx X m news W)
    (hm : v.2.1 + m ≤ maxLen) (hb : (v.2.1 + m) * i.bytes ≤ 140737488355328) :
    ∃ v' W' h', (Builtin.append_ #[t, tx] ty #[.slice v.1 v.2.1 v.2.2, X]).run P W = .ok (.slice v'.1 v'.2.1 v'.2.2) W' ∧ In W' h' ∧ Step W h W' h' ∧ Row e i.size v' (xs ++ news) h' ∧ v'.2.1 = v.2.1 + m := by
  obtain ⟨A, n, c⟩ := v
  have rd := row.rd
  obtain ⟨h1, h2, h4, h3⟩ := row
  simp only at h1 h2 h4 h3 rd hm hb ⊢
  by_cases hr : n + m ≤ c
  · rcases h3 with ⟨e1, e2⟩ | ⟨b, rest, e1, e2, e3⟩
    · have hm0 : m = 0 := by omega
      have hn0 : n = 0 := by omega
      subst hm0 hn0 e1 e2
      have hnews : news = [] := List.eq_nil_of_length_eq_zero (by have := hs.newsLen; simpa using this)
      have hxs : xs = [] := List.eq_nil_of_length_eq_zero (by simpa using h1)
      subst hnews hxs
      refine ⟨(A, 0, 0), W, Hp.emp, ?_, In.emp _, Step.refl _ _, Row.nil _ _ _, rfl⟩
      have hc := hs.cells
      rcases hs.kind with ⟨e', hk⟩ | hk <;> cases A <;> simp [Builtin.append_, run_underlying ht, run_underlying hk, sizeOf, typeInfo, hi, hs.len, hc, storeCells]
    · subst e1 e3
      have hh : W.heap[b]? = some (.cells (xs ++ rest).toArray e (0, 0)) := hin b _ (by simp [Hp.one])
      have hnl := hs.newsLen
      have hfit : news.length ≤ rest.length := by rw [hnl, e2]; exact Nat.mul_le_mul_right _ (by omega)
      obtain ⟨W', hrun, hos, htape, hout, hheap⟩ := storeCells_run (P := P) (xs.length) news 0 (xs ++ rest) W hh (by simp; omega) (allOne_of hs.one)
      simp only [Nat.add_zero] at hheap
      rw [setAt_app _ _ _ hfit] at hheap
      have hd : Disj (Hp.one b (.cells (xs ++ rest).toArray e (0, 0))) Hp.emp := Disj.emp_right _
      obtain ⟨d', i', s'⟩ := step_write (o' := .cells (xs ++ news ++ rest.drop news.length).toArray e (0, 0)) hd (by rw [Hp.un_emp]; exact hin) hos htape hout hheap
      rw [Hp.un_emp] at i' s'
      rw [Hp.un_emp] at s'
      refine ⟨(some ⟨b, 0, none⟩, n + m, c), W', _, ?_, i', s', ⟨?_, hr, h4, .inr ⟨b, rest.drop news.length, rfl, ?_, rfl⟩⟩, rfl⟩
      · have hrun' : (storeCells ⟨b, n * i.size, none⟩ news).run P W = .ok () W' := by rw [← h1]; exact hrun
        rcases hs.kind with ⟨e', hk⟩ | hk <;> simp [Builtin.append_, run_underlying ht, run_underlying hk, sizeOf, typeInfo, hi, hs.len, hr, hs.cells, Addr.add0, hrun']
      · simp only [List.length_append, h1, hnl, Nat.add_mul]
      · simp only [List.length_drop, e2, hnl, ← Nat.sub_mul]
        congr 1
        omega
  · have hg : c < n + m := by omega
    have hsmall : n + m ≤ 9223372036854775807 := by simp only [maxLen] at hm; omega
    have hrun := run_append_grow_src (P := P) W t tx ty e i z ht hi hz A n c xs (rd.first (In.drew hin) h1) X m news hs hg (by omega) (growslice_fits hg hb)
    have hge := grownCap_ge W (n + m) c e
    have hcm := grownCap_le_maxLen W (n + m) c e hm
    obtain ⟨d', i', s'⟩ := step_new (W := W.drew) (h := h) (In.drew hin) (.cells ((xs ++ news).toArray ++ Builtin.zeroCells z.cells (grownCap W (n + m) c e - (n + m))) e (0, 0))
    refine ⟨(some ⟨W.heap.size, 0, none⟩, n + m, grownCap W (n + m) c e), _, Hp.one W.heap.size (.cells ((xs ++ news).toArray ++ Builtin.zeroCells z.cells (grownCap W (n + m) c e - (n + m))) e (0, 0)), hrun, ((in_un d').1 i').1, ?_, ⟨?_, hge, hcm, .inr ⟨W.heap.size, (Builtin.zeroCells z.cells (grownCap W (n + m) c e - (n + m))).toList, rfl, ?_, ?_⟩⟩, rfl⟩
    · exact (step_drew W h).trans (s'.drop fun b hb he => hb ((Hp.un_none.1 he).1))
    · simp only [List.length_append, h1, hs.newsLen, Nat.add_mul]
    · rw [Array.length_toList, size_zeroCells, hzs]
    · congr 2
      apply Array.ext'
      simp
end Go.SL
