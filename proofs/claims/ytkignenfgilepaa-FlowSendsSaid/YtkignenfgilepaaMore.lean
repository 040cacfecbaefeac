/- More about rows: an append onto a full slice; a part that is cleared. -/
import Derived.Test.YtkignenfgilepaaMut
import Derived.Test.YtkignenfgilepaaSel
namespace Go.SL
open Go Go.RowKit
set_option linter.unusedVariables false
set_option linter.unusedSimpArgs false
variable {P : Program} {c : Ctx}

/-- An append onto a full slice makes a row anew. -/
theorem row_appendF {e t tx ty : TypeId} {i : TypeInfo} {z : Value} (ht : P.underlying t = some (.slice e)) (hi : P.info? e = some i) (hz : i.zero = some z) (hzs : z.cells.size = i.size)
    {A : Option Addr} {n : Nat} {xs : List Value} {W : World} {h : Hp} (hin : In W h) (rd : Rd h A xs) (hl : xs.length = n * i.size) {X : Value} {m : Nat} {news : List Value} (hs : Src P i.size tx X m news W)
    (h0 : 0 < m) (hm : n + m ≤ maxLen) (hb : (n + m) * i.bytes ≤ 140737488355328) :
    ∃ v' W' h', (Builtin.append_ #[t, tx] ty #[.slice A n n, X]).run P W = .ok (.slice v'.1 v'.2.1 v'.2.2) W' ∧ In W' h' ∧ Step W Hp.emp W' h' ∧ Row e i.size v' (xs ++ news) h' ∧ v'.2.1 = n + m := by
  have hg : n < n + m := by omega
  have hsmall : n + m ≤ 9223372036854775807 := by simp only [maxLen] at hm; omega
  have hrun := run_append_grow_src (P := P) W t tx ty e i z ht hi hz A n n xs (rd.first (In.drew hin) hl) X m news hs hg (by omega) (growslice_fits hg hb)
  have hge := grownCap_ge W (n + m) n e
  have hcm := grownCap_le_maxLen W (n + m) n e hm
  obtain ⟨d', i', s'⟩ := step_new (W := W.drew) (h := Hp.emp) (In.emp _) (.cells ((xs ++ news).toArray ++ Builtin.zeroCells z.cells (grownCap W (n + m) n e - (n + m))) e (0, 0))
  rw [Hp.un_emp] at i' s'
  refine ⟨(some ⟨W.heap.size, 0, none⟩, n + m, grownCap W (n + m) n e), _, Hp.one W.heap.size (.cells ((xs ++ news).toArray ++ Builtin.zeroCells z.cells (grownCap W (n + m) n e - (n + m))) e (0, 0)), hrun, i', ?_, ⟨?_, hge, hcm, .inr ⟨W.heap.size, (Builtin.zeroCells z.cells (grownCap W (n + m) n e - (n + m))).toList, rfl, ?_, ?_⟩⟩, rfl⟩
  · exact (step_drew W _).trans s'
  · simp only [List.length_append, hl, hs.newsLen, Nat.add_mul]
  · rw [Array.length_toList, size_zeroCells, hzs]
  · congr 2
    apply Array.ext'
    simp
theorem v_appendF (n : Nat) {e t tx ty : TypeId} {sz by' : Nat} {z : Value} (he : elemP P t = some (e, sz, by', z))
    {cs : List Ch} (hn : cs[n]? = some .none) {A : Option Addr} {l : Nat} {xs : List Value} {g : Hp} (R : ∀ W h, In W h → satL cs h → In W g → Disj h g → ∃ h', In W h' ∧ Rd h' A xs) (hl : xs.length = l * sz)
    {X : Value} {m : Nat} {news : List Value} (hb : Base c g) (hs : ∀ W h, In W h → satL cs h → In W g → Disj h g → Src P sz tx X m news W) (h0 : 0 < m) (hm : l + m ≤ maxLen) (hby : (l + m) * by' ≤ 140737488355328)
    {k : oS.ty → TupF [(n, .own)] → Prop} (hk : ∀ A' cap', k (A', l + m, cap') (Row e sz (A', l + m, cap') (xs ++ news), pU)) :
    (hops P c).v oS (Builtin.append_ #[t, tx] ty #[.slice A l l, X]) cs [(n, .own)] k :=
  v_make n hn hb fun W h ih s ig dg => by
    obtain ⟨ht, i, hi, hz, hzs, rfl, rfl⟩ := elem_of he
    obtain ⟨h', ih', rd⟩ := R W h ih s ig dg
    obtain ⟨v', W', h', hrun, hin', hst, hrow', hlen⟩ := row_appendF (P := P) (t := t) (tx := tx) (ty := ty) ht hi hz hzs ih' rd hl (hs W h ih s ig dg) h0 hm hby
    obtain ⟨A', l', cap'⟩ := v'
    simp only at hlen
    subst hlen
    exact ⟨(A', l + m, cap'), W', h', Row e i.size (A', l + m, cap') (xs ++ news), hrun, hin', hst, hrow', hk A' cap'⟩
/-- An append for which there is room: the row stays where it was. -/
theorem row_appendIn {e t tx ty : TypeId} {i : TypeInfo} {z : Value} (ht : P.underlying t = some (.slice e)) (hi : P.info? e = some i)
    {A : Option Addr} {n c : Nat} {xs : List Value} {h : Hp} {W : World} (hin : In W h) (row : Row e i.size (A, n, c) xs h) {X : Value} {m : Nat} {news : List Value} (hs : Src P i.size tx X m news W)
    (hr : n + m ≤ c) (hc0 : 0 < c) :
    ∃ W' h', (Builtin.append_ #[t, tx] ty #[.slice A n c, X]).run P W = .ok (.slice A (n + m) c) W' ∧ In W' h' ∧ Step W h W' h' ∧ Row e i.size (A, n + m, c) (xs ++ news) h' := by
  obtain ⟨h1, h2, h4, h3⟩ := row
  simp only at h1 h2 h4 h3
  rcases h3 with ⟨e1, e2⟩ | ⟨b, rest, e1, e2, e3⟩
  · omega
  · subst e1 e3
    have hh : W.heap[b]? = some (.cells (xs ++ rest).toArray e (0, 0)) := hin b _ (by simp [Hp.one])
    have hnl := hs.newsLen
    have hfit : news.length ≤ rest.length := by rw [hnl, e2]; exact Nat.mul_le_mul_right _ (by omega)
    obtain ⟨W', hrun, hos, htape, hout, hheap⟩ := storeCells_run (P := P) (xs.length) news 0 (xs ++ rest) W hh (by simp; omega) (allOne_of hs.one)
    simp only [Nat.add_zero] at hheap
    rw [setAt_app _ _ _ hfit] at hheap
    have hd : Disj (Hp.one b (.cells (xs ++ rest).toArray e (0, 0))) Hp.emp := Disj.emp_right _
    obtain ⟨d', i', s'⟩ := step_write (o' := .cells (xs ++ news ++ rest.drop news.length).toArray e (0, 0)) hd (by rw [Hp.un_emp]; exact hin) hos htape hout hheap
    rw [Hp.un_emp] at i' s'
    rw [Hp.un_emp] at s'
    refine ⟨W', _, ?_, i', s', ?_, hr, h4, .inr ⟨b, rest.drop news.length, rfl, ?_, rfl⟩⟩
    · have hrun' : (storeCells ⟨b, n * i.size, none⟩ news).run P W = .ok () W' := by rw [← h1]; exact hrun
      rcases hs.kind with ⟨e', hk⟩ | hk <;> simp [Builtin.append_, run_underlying ht, run_underlying hk, sizeOf, typeInfo, hi, hs.len, hr, hs.cells, Addr.add0, hrun']
    · simp only [List.length_append, h1, hnl, Nat.add_mul]
    · simp only [List.length_drop, e2, hnl, ← Nat.sub_mul]
      congr 1
      omega
theorem v_appendIn (n : Nat) {e t tx ty : TypeId} {sz by' : Nat} {z : Value} (he : elemP P t = some (e, sz, by', z))
    {cs : List Ch} {O : Hp → Prop} (hn : cs[n]? = some (.own O)) {A : Option Addr} {l cap : Nat} {xs : List Value} (hO : ∀ h, O h → Row e sz (A, l, cap) xs h)
    {X : Value} {m : Nat} {news : List Value} {g : Hp} (hb : Base c g) (hs : ∀ W h, In W h → satL cs h → In W g → Disj h g → Src P sz tx X m news W) (hm : l + m ≤ cap) (hc0 : 0 < cap)
    {k : oS.ty → TupF [(n, .own)] → Prop} (hk : k (A, l + m, cap) (Row e sz (A, l + m, cap) (xs ++ news), pU)) :
    (hops P c).v oS (Builtin.append_ #[t, tx] ty #[.slice A l cap, X]) cs [(n, .own)] k :=
  v_any hb fun W h ih s ig dg => by
    obtain ⟨ht, i, hi, hz, hzs, rfl, rfl⟩ := elem_of he
    have hsrc := hs W h ih s ig dg
    obtain ⟨h1, h2, d, rfl, s1, hset⟩ := satL_get s hn
    obtain ⟨i1, i2⟩ := (in_un d).1 ih
    obtain ⟨W', h', hrun, hin', hst, hrow'⟩ := row_appendIn (P := P) (t := t) (tx := tx) (ty := ty) (z := z) ht hi i1 (hO h1 s1) hsrc hm hc0
    exact ⟨h1, h2, rfl, d, (A, l + m, cap), (Row e i.size (A, l + m, cap) (xs ++ news), pU), W', h', hrun, hin', hst, fun dd => hset (.own _) h' hrow' dd, hk⟩
theorem one_zero {z : Array Value} (h : ∀ u ∈ z.toList, u.oneCell' = true) (n : Nat) : allOne (Builtin.zeroCells z n).toList = true := by
  refine allOne_of fun u hu => ?_
  simp only [Builtin.zeroCells, Array.toList_map, List.mem_map, Array.toList_range, List.mem_range] at hu
  obtain ⟨i, hi, rfl⟩ := hu
  have hp : 0 < z.size := by
    rcases Nat.eq_zero_or_pos z.size with e | e
    · rw [e] at hi; simp at hi
    · exact e
  have hlt : i % z.size < z.size := Nat.mod_lt _ hp
  rw [getElem!_pos z (i % z.size) hlt]
  exact h _ (Array.getElem_mem_toList hlt)
/-- A part behind a row's end is cleared. -/
theorem v_clear (n : Nat) {e t ty : TypeId} {sz by' : Nat} {z : Value} (he : elemP P t = some (e, sz, by', z)) (hz1 : ∀ u ∈ z.cells.toList, u.oneCell' = true)
    {cs : List Ch} {O D : Hp → Prop} (hn : cs[n]? = some (.own O)) {A : Option Addr} {l cap : Nat} {xs : List Value} (hO : ∀ h, O h → Sep (Row e sz (A, l, cap) xs) D h)
    {B : Option Addr} {m kc : Nat} (hB : m = 0 ∨ B = some ((oget A).add (l * sz))) (hle : l + m ≤ cap)
    {k : TupT [] → TupF [(n, .own)] → Prop} (hk : k pU (Sep (Row e sz (A, l, cap) xs) D, pU)) :
    (hops P c).v (.tup []) (Builtin.clear_ #[t] ty #[.slice B m kc]) cs [(n, .own)] k :=
  v_any (Base.emp c) fun W h ih s ig dg => by
    obtain ⟨ht, i, hi, hz, hzs, rfl, rfl⟩ := elem_of he
    obtain ⟨h1', h2, d, rfl, s1, hset⟩ := satL_get s hn
    obtain ⟨h3, h4, d34, rfl, hrow, hD⟩ := hO h1' s1
    obtain ⟨d32, d42⟩ := disj_un_left.1 d
    obtain ⟨i34, i2⟩ := (in_un d).1 ih
    obtain ⟨i3, i4⟩ := (in_un d34).1 i34
    have main : ∃ W' h', (Builtin.clear_ #[t] ty #[.slice B m kc]).run P W = .ok (.tuple #[]) W' ∧ In W' h' ∧ Step W h3 W' h' ∧ Row e i.size (A, l, cap) xs h' := by
      rcases Nat.eq_zero_or_pos m with e0 | h0
      · subst e0
        refine ⟨W, h3, ?_, i3, Step.refl _ _, hrow⟩
        cases B <;> simp [Builtin.clear_, run_underlying ht]
      · have hB' : B = some ((oget A).add (l * i.size)) := by
          rcases hB with e | e
          · omega
          · exact e
        subst hB'
        obtain ⟨r1, r2, r3, r4⟩ := hrow
        simp only at r1 r2 r3 r4
        rcases r4 with ⟨e1, e2⟩ | ⟨b, rest, e1, e2, e3⟩
        · omega
        · subst e1 e3
          have hb : W.heap[b]? = some (.cells (xs ++ rest).toArray e (0, 0)) := i3 b _ (by simp [Hp.one])
          have hzl : (Builtin.zeroCells z.cells m).toList.length = m * i.size := by rw [Array.length_toList, size_zeroCells, hzs]
          have hml : m * i.size ≤ rest.length := by rw [e2]; exact Nat.mul_le_mul_right _ (by omega)
          have hone : allOne (Builtin.zeroCells z.cells m).toList = true := one_zero hz1 m
          obtain ⟨W', hr, a1, a2, a3, a4⟩ := storeCells_run (P := P) xs.length (Builtin.zeroCells z.cells m).toList 0 (xs ++ rest) W hb (by rw [hzl, List.length_append]; omega) hone
          rw [Nat.add_zero, setAt_app _ _ _ (by rw [hzl]; exact hml)] at a4
          obtain ⟨_, i', s'⟩ := step_write (h := Hp.emp) (Disj.emp_right _) (by rw [Hp.un_emp]; exact i3) a1 a2 a3 a4
          rw [Hp.un_emp] at i' s'
          rw [Hp.un_emp] at s'
          refine ⟨W', _, ?_, i', s', r1, r2, r3, .inr ⟨b, (Builtin.zeroCells z.cells m).toList ++ rest.drop (Builtin.zeroCells z.cells m).toList.length, rfl, ?_, by rw [List.append_assoc]⟩⟩
          · have hm' : m ≠ 0 := by omega
            rw [r1] at hr
            have hr' : (storeCells ⟨b, l * i.size, none⟩ (Builtin.zeroCells z.cells m).toList).run P W = .ok () W' := hr
            cases m with
            | zero => omega
            | succ m => simp [Builtin.clear_, run_underlying ht, zeroValue, typeInfo, hi, hz, oget, Addr.add0, hr']
          · rw [List.length_append, List.length_drop, hzl, ← e2]
            omega
    obtain ⟨W', h', hrun, hin', hst, hrow'⟩ := main
    refine ⟨h3, h4.un h2, by rw [Hp.un_assoc], disj_un_right.2 ⟨d34, d32⟩, pU, (Sep (Row e i.size (A, l, cap) xs) D, pU), W', h', hrun, hin', hst, fun dd => ?_, hk⟩
    obtain ⟨dd4, dd2⟩ := disj_un_right.1 dd
    rw [← Hp.un_assoc]
    exact hset (.own _) (h'.un h4) ⟨h', h4, dd4, rfl, hrow', hD⟩ (disj_un_left.2 ⟨dd2, d42⟩)
theorem set_same {cs : List Ch} {n : Nat} {x : Ch} (h : cs[n]? = some x) : cs.set n x = cs := by
  obtain ⟨hl, e⟩ := List.getElem?_eq_some_iff.1 h
  subst e
  exact List.set_getElem_self hl
/-- A call that changes a chunk, and reads another. -/
theorem call_ownR (n d : Nat) {r : OS} {f : FuncId} (hf : callB P f = true) {args : List Value} {cs : List Ch} {O : Hp → Prop} {x : Ch} (hn : cs[n]? = some (.own O)) (hd : cs[d]? = some x) (hne : n ≠ d) {k : r.ty → TupF [(n, .own)] → Prop} {g : Hp} (hb : Base c g)
    (H : ∀ W h1 h2, In W h1 → In W h2 → O h1 → x.sat h2 → In W g → Disj h1 h2 → Disj h1 g → Disj h2 g → Ok P f args.toArray W h1 fun v h' _ => ∃ x O', v = r.val x ∧ O' h' ∧ k x (O', pU)) :
    (hops P c).call r f args cs [(n, .own)] k := by
  refine call_sel [n, d] hf (by simp [hne]) (fun m hm => ?_) hb fun W hp hr ip ir sp ig d1 d2 d3 => ?_
  · simp only [List.mem_cons, List.not_mem_nil, or_false] at hm
    rcases hm with rfl | rfl
    · exact (List.getElem?_eq_some_iff.1 hn).1
    · exact (List.getElem?_eq_some_iff.1 hd).1
  · obtain ⟨a1, k1, da, rfl, s1, a2, k2, db, rfl, s2, e5⟩ := sp
    obtain rfl : k2 = Hp.emp := e5
    rw [Hp.un_emp] at da ip d2 ⊢
    simp only [List.getD, hn, hd, Option.getD_some] at s1 s2
    obtain ⟨ia, ib⟩ := (in_un da).1 ip
    obtain ⟨dg1, dg2⟩ := disj_un_left.1 d2
    refine Ok.mono (Ok.beside (Q := fun v h' => ∃ y O', v = r.val y ∧ Sep O' x.sat h' ∧ k y (O', pU)) (H W a1 a2 ia ib s1 s2 ig da dg1 dg2) da ib fun v h' dd ⟨y, O', e, o, hk⟩ => ⟨y, O', e, ⟨h', a2, dd, rfl, o, s2⟩, hk⟩) ?_
    rintro v h' W2 _ _ ⟨y, O', e, ⟨g1, g2, d5, rfl, t1, t2⟩, hk⟩
    refine ⟨y, (O', pU), [.own O', x], _, e, Sub.refl _, rfl, ⟨g1, g2, d5, rfl, t1, satL_one t2⟩, ?_, hk⟩
    simp only [applyF, CF.ch, setMany]
    exact (set_same (by rw [List.getElem?_set_ne hne]; exact hd)).symm
/-- A call that changes a chunk, and makes one. -/
theorem call_own_make (n m : Nat) {r : OS} {f : FuncId} (hf : callB P f = true) {args : List Value} {cs : List Ch} {O : Hp → Prop} (hn : cs[n]? = some (.own O)) (hm : cs[m]? = some .none) (hne : n ≠ m) {k : r.ty → TupF [(n, .own), (m, .own)] → Prop} {g : Hp} (hb : Base c g)
    (H : ∀ W h1, In W h1 → O h1 → In W g → Disj h1 g → Ok P f args.toArray W h1 fun v h' _ => ∃ x O1 O2, v = r.val x ∧ Sep O1 O2 h' ∧ k x (O1, O2, pU)) :
    (hops P c).call r f args cs [(n, .own), (m, .own)] k := by
  refine call_sel [n, m] hf (by simp [hne]) (fun j hj => ?_) hb fun W hp hr ip ir sp ig d1 d2 d3 => ?_
  · simp only [List.mem_cons, List.not_mem_nil, or_false] at hj
    rcases hj with rfl | rfl
    · exact (List.getElem?_eq_some_iff.1 hn).1
    · exact (List.getElem?_eq_some_iff.1 hm).1
  · obtain ⟨a1, k1, da, rfl, s1, a2, k2, db, rfl, s2, e5⟩ := sp
    simp only [List.getD, hn, hm, Option.getD_some] at s1 s2
    obtain rfl : k2 = Hp.emp := e5
    obtain rfl : a2 = Hp.emp := s2
    rw [Hp.un_emp, Hp.un_emp] at *
    refine Ok.mono (H W a1 ip s1 ig d2) fun v h' W2 _ _ ⟨y, O1, O2, e, ⟨g1, g2, d5, eh, t1, t2⟩, hk⟩ => ⟨y, (O1, O2, pU), [.own O1, .own O2], h', e, Sub.refl _, rfl, ⟨g1, g2, d5, eh, t1, satL_one t2⟩, rfl, hk⟩
/-- A literal's row is turned to its own type: it is marked. -/
theorem v_conv (n : Nat) {t e : TypeId} (ht : P.underlying t = some (.slice e)) (he : P.underlying e = some (.int .u8)) {cs : List Ch} {b : Nat} {cells : List Value} {T : TypeId}
    (hn : cs[n]? = some (.own fun h => h = Hp.one b (.cells cells.toArray T (0, 0)))) {m cp : Nat} {k : oS.ty → TupF [(n, .own)] → Prop}
    (hk : k (some ⟨b, 0, none⟩, m, cp) ((fun h => h = Hp.one b (.cells cells.toArray T (cells.length, cells.length + 1))), pU)) :
    (hops P c).v oS (convert t t (.slice (some ⟨b, 0, none⟩) m cp)) cs [(n, .own)] k :=
  v_any (Base.emp c) fun W h ih s ig dg => by
    obtain ⟨h1, h2, d, rfl, s1, hset⟩ := satL_get s hn
    obtain rfl : h1 = Hp.one b (.cells cells.toArray T (0, 0)) := s1
    have hb : W.heap[b]? = some (.cells cells.toArray T (0, 0)) := ((in_un d).1 ih).1 b _ (by simp [Hp.one])
    obtain ⟨hlt, he'⟩ := Array.getElem?_eq_some_iff.1 hb
    have hfr : (W.freeze ⟨b, cells.length, none⟩ 1).heap = W.heap.setIfInBounds b (.cells cells.toArray T (cells.length, cells.length + 1)) := by
      unfold World.freeze
      rw [if_neg (by decide)]
      apply Array.ext
      · simp
      · intro j h1 h2
        simp only [Array.getElem_modify]
        split
        · subst_vars; rw [he']; simp
        · rename_i hne; rw [Array.getElem_setIfInBounds, if_neg hne]
    have hrun : (convert t t (.slice (some ⟨b, 0, none⟩) m cp)).run P W = .ok (.slice (some ⟨b, 0, none⟩) m cp) (W.freeze ⟨b, cells.length, none⟩ 1) := by
      have hsh : W.shape? b = some (T, cells.length) := by unfold World.shape?; rw [hb]; simp
      simp [convert, run_underlying ht, run_underlying he, markStringish, hsh]
    have e1 : (W.freeze ⟨b, cells.length, none⟩ 1).os = W.os := by unfold World.freeze; rw [if_neg (by decide)]
    have e2 : (W.freeze ⟨b, cells.length, none⟩ 1).tape = W.tape := by unfold World.freeze; rw [if_neg (by decide)]
    have e3 : (W.freeze ⟨b, cells.length, none⟩ 1).output = W.output := by unfold World.freeze; rw [if_neg (by decide)]
    obtain ⟨d', i', s'⟩ := step_write (h := Hp.emp) (Disj.emp_right _) (by rw [Hp.un_emp]; exact ((in_un d).1 ih).1) e1 e2 e3 hfr
    rw [Hp.un_emp] at i' s'
    rw [Hp.un_emp] at s'
    exact ⟨_, h2, rfl, d, (some ⟨b, 0, none⟩, m, cp), ((fun h => h = Hp.one b (.cells cells.toArray T (cells.length, cells.length + 1))), pU), _, _, hrun, i', s', fun dd => hset (.own _) _ rfl dd, hk⟩
theorem rd_marked {b : Nat} {cells : List Value} {T : TypeId} {fz : Nat × Nat} : Rd (Hp.one b (.cells cells.toArray T fz)) (some ⟨b, 0, none⟩) cells :=
  .inr ⟨b, 0, cells, T, fz, rfl, by simp [Hp.one], by simp, by simp⟩
end Go.SL
