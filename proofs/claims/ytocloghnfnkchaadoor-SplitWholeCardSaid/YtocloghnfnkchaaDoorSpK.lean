/- SplitWhole. -/
import Derived.Test.YtocloghnfnkchaaDoorSpJ
import Derived.Test.YtocloghnfnkchaaDoorPlD
open Go Go.SL Go.Proofs
set_option maxRecDepth 100000
set_option linter.unusedVariables false
namespace Go.Proofs.SplitVc
theorem dataOf_take_succ (l : List Pd) (i : Nat) (h : i < l.length) : dataOf (l.take (i + 1)) = dataOf (l.take i) ++ l[i].data := by
  rw [List.take_succ_eq_append_getElem h]
  unfold dataOf
  rw [List.flatMap_append, List.flatMap_cons, List.flatMap_nil, List.append_nil]
theorem dataOf_take_le (l : List Pd) (i : Nat) : (dataOf (l.take i)).length ≤ (dataOf l).length := by
  conv => rhs; rw [← List.take_append_drop i l]
  unfold dataOf
  rw [List.flatMap_append, List.length_append]
  omega
theorem split_nil {x : Pd} {mtu : Int} (hne : (splitF x mtu).2 ≠ 0) : (splitF x mtu).1 = [] := by
  unfold splitF at hne ⊢
  split
  · rfl
  · split
    · rfl
    · split
      · rename_i h1 h2 h3; rw [if_neg h1, if_neg h2, if_pos h3] at hne; exact absurd rfl hne
      · split
        · rfl
        · split
          · rfl
          · rename_i h1 h2 h3 h4 h5
            rw [if_neg h1, if_neg h2, if_neg h3, if_neg h4, if_neg h5] at hne
            cases hp : piecesF (x.data.length + 1) x mtu (btx (laterF x.opts.data.toList).1) with
            | none => rfl
            | some l => rw [hp] at hne; exact absurd rfl hne
theorem whole_ok {W : World} {g : Hp} (hg : In W g) (hlaid : Laid g) (x : Pd) (A : Option Addr) (c : Nat) (hx : It.ok (x, A, c) g) (mtu : Int) :
    Ok Tryd.prog 5 #[(x.pk A c).val, Vi mtu] W Hp.emp fun r h' _ => r = Vo true ∧ h' = Hp.emp := by
  have hb : Base ⟨W, Hp.emp⟩ g := ⟨hg, Disj.emp_left _⟩
  refine exec_ok' (P := Tryd.prog) e5 (fn := Tryd.f5) (by kernel_rfl) (args := [.raw (x.pk A c).val, .raw (Vi mtu)]) (cs := [.none, .none, .none, .none, .none]) (vs := [(x.pk A c).val, Vi mtu]) rfl (by kernel_rfl) (In.emp W)
    (satL_none (satL_none (satL_none (satL_none (satL_none rfl))))) (R := fun r h' => r = Vo true ∧ h' = Hp.emp) ?_
  rw [ve5]
  intro b
  refine call_read (by kernel_rfl) hb fun W1 h1 i1 s1 ig dg => ?_
  refine Ok.mono (few_ok x A c) fun r h' W' _ _ ⟨hr, _⟩ => ?_
  subst hr
  refine ⟨fewB x, rfl, fun h => q_none ⟨rfl, rfl⟩, fun h => ?_⟩
  have hf : fewB x = true := by simpa using h
  have hd3 : x.data.length ≤ 3000 := by
    simp only [fewB, Bool.and_eq_true, decide_eq_true_eq] at hf
    omega
  refine call_make 2 (by kernel_rfl) rfl hb fun W1 h1 i1 s1 ig dg => ?_
  refine Ok.mono (Split_ok ig hlaid x A c hx mtu (by omega)) fun r h' W' _ _ hr => ?_
  obtain ⟨⟨va, vn, vc⟩, ls, rfl, hvn, hpk, hls⟩ := splitR_cases hr
  simp only at hvn
  subst hvn
  have hva : 0 < ls.length → va ≠ none := fun h => pks_some hpk h
  refine ⟨((va, ls.length, vc), (splitF x mtu).2, pU), Pks (va, ls.length, vc) ls, rfl, hpk, ?_⟩
  have aw : ∀ {cs : List Ch} {k : oB.ty → PUnit → Prop}, k true pU → (hops Tryd.prog ⟨W, Hp.emp⟩).call oB 8 [] cs [] k := fun hk =>
    call_read (by kernel_rfl) hb fun W2 h2 i2 s2 ig2 dg2 => Ok.mono (awake_ok ig2 hlaid) fun r h' W' _ _ ⟨hr, _⟩ => ⟨true, hr, hk⟩
  refine ⟨fun h => aw (q_none ⟨?_, rfl⟩), fun h => ?_⟩
  · have hne : (splitF x mtu).2 ≠ 0 := by simpa using h
    have hnil : ls = [] := by
      have e := split_nil hne
      rw [e] at hls
      exact List.map_eq_nil_iff.1 hls
    rw [hnil]
    rfl
  clear hr hpk
  have h0 : (splitF x mtu).2 = 0 := by simpa using h
  obtain ⟨hw1, ⟨q0, r0, hq0, hqo⟩, hw3⟩ := split_whole (by omega) h0
  have hfit := split_fit (by omega) h0
  have hlen : ls.length = (splitF x mtu).1.length := by rw [← hls, List.length_map]
  have hget : ∀ i (h : i < ls.length), (splitF x mtu).1[i]'(by omega) = ls[i].1 := fun i h => by simp [← hls]
  have hcount : ls.length ≤ 70000 := by
    have hp : ∀ l : List Pd, (∀ i (h : i < l.length), i + 1 < l.length → l[i].data.length ≠ 0) → l.length ≤ (dataOf l).length + 1 := by
      intro l
      induction l with
      | nil => intro _; simp
      | cons y r ih =>
        intro h
        cases r with
        | nil => simp
        | cons z r =>
          have h1 := h 0 (by simp) (by simp)
          have h2 := ih (fun i hi hi2 => by have := h (i + 1) (by simp; simpa using hi) (by simpa using hi2); simpa using this)
          simp only [dataOf, List.flatMap_cons, List.length_append, List.length_cons, List.getElem_cons_zero] at h1 h2 ⊢
          omega
    have := hp _ (fun i h h2 => ((hw3 i h).2.2.2.2.2.2.2.2.2 h2).2.2)
    rw [hw1] at this
    omega
  refine ⟨fun y z => ∃ i A c, i ≤ ls.length ∧ y.1 = (A, (dataOf ((splitF x mtu).1.take i)).length, c) ∧ y.2.1 = (i : Int) ∧ ∀ h, z.2.1 h → Row 5 1 (A, (dataOf ((splitF x mtu).1.take i)).length, c) (bts (dataOf ((splitF x mtu).1.take i))) h,
    fun y z => ls.length - y.2.1.toNat, ⟨(pU, fun h => h = Hp.emp, pU), ent_same (ent_gone (ent_same (ent_same (ent_ownE rfl ent_nil)))), 0, none, 0, by omega, rfl, rfl, ?_⟩, ?_⟩
  · intro h e; subst e; exact Row.nil _ _ _
  rintro ⟨⟨B, n', d⟩, i', _⟩ ⟨_, O, _⟩ ⟨i, B', d', hil, e1, e2, hO⟩
  simp only [Prod.mk.injEq] at e1 e2 hO
  obtain ⟨rfl, rfl, rfl⟩ := e1
  subst e2
  have hdl := dataOf_take_le (splitF x mtu).1 i
  rw [hw1] at hdl
  refine ⟨fun h => ?_, fun h => ?_⟩
  · have hlt : i < ls.length := by have := of_decide_eq_true h; simp only at this; omega
    have hlt' : i < (splitF x mtu).1.length := by omega
    have hmem : ls[i].1 ∈ (splitF x mtu).1 := by rw [← hls]; exact List.mem_map_of_mem (List.getElem_mem hlt)
    obtain ⟨g1, g2, g3, g4⟩ := hfit _ hmem
    obtain ⟨a1, a2, a3, a4, a5, a6, a7, a8, a9, a10⟩ := hw3 i hlt'
    rw [hget i hlt] at a1 a2 a3 a4 a5 a6 a7 a8 a9 a10
    refine ⟨⟨hva (by omega), by simp only; omega, by simp only; omega⟩, ?_⟩
    rw [Int.toNat_natCast]
    refine ld_pk (rd_chunk 2 rfl pks_rd) hlt ?_
    intro b1
    refine call_read (by kernel_rfl) hb fun W2 h2 i2 s2 ig2 dg2 => ?_
    obtain ⟨k1, p1, hk1⟩ := satL_sub s2 (i := 2) rfl
    have hit : It.ok ls[i] (h2.un g) := ((pks_dat p1) _ (List.getElem_mem hlt)).mono (Sub.trans hk1 (sub_left _ _))
    refine Ok.mono (Bytes_ok (i2.un ig2) (hlaid.mono (sub_right dg2)) ls[i].1 ls[i].2.1 ls[i].2.2 hit (by omega) g1) fun r h' W' _ _ ⟨E, f, hr⟩ => ?_
    subst hr
    refine ⟨((E, 20 + ls[i].1.opts.size + ls[i].1.data.length, f), 0, pU), rfl, fun h => ?_, fun _ => ?_⟩
    · exfalso
      have hoff := checkD_sum g1 (by omega)
      have hwr : wr (x.off + ((dataOf ((splitF x mtu).1.take i)).length : Int)) = ls[i].1.off := by rw [a1]; exact wr_id (by omega) (by omega)
      simp only [hwr, a2, a3, a4, a5, a6, a7, a8] at h
      simp at h
      omega
    · have hws : wr ((ls.length : Int) - 1) = (ls.length : Int) - 1 := wr_id (by omega) (by omega)
      simp only [hws]
      refine ⟨fun h => ?_, fun _ => ?_⟩
      · exfalso
        by_cases hl : i + 1 = ls.length
        · have e : ((i : Int) == (ls.length : Int) - 1) = true := by simp; omega
          have hm := a9 (by omega)
          rw [e] at h
          simp only [hm] at h
          simp at h
        · have e : ((i : Int) == (ls.length : Int) - 1) = false := by simp; omega
          obtain ⟨m1, m2, m3⟩ := a10 (by omega)
          rw [e] at h
          simp only [m1] at h
          have m4 : ((ls[i].1.data.length : Int).tmod 8 != 0) = false := by
            rw [Int.tmod_eq_emod_of_nonneg (by omega)]
            simp; omega
          simp only [m4] at h
          simp at h
          exact m3 (by rw [h]; rfl)
      · have hts := dataOf_take_succ (splitF x mtu).1 i hlt'
        rw [hget i hlt] at hts
        have hdl2 := dataOf_take_le (splitF x mtu).1 (i + 1)
        rw [hw1, hts, List.length_append] at hdl2
        refine v_append2 4 el22 rfl hO hb (src_chunk (A := ls[i].2.1) (news := bts ls[i].1.data) (fun h s => ?_) (by rw [bts_len]; simp) (bts_one _) slc22) (by unfold maxLen; omega) (by omega) fun A' c' O' hO' z hz => ?_
        · obtain ⟨k1, p1, hk1⟩ := satL_sub s (i := 2) rfl
          exact ((pks_dat p1) _ (List.getElem_mem hlt)).1.mono hk1
        · rw [wr_id (by omega) (by omega)] at hz
          refine ⟨(pU, O', pU), ent_same (ent_gone (ent_same (ent_same (ent_same ent_nil)))), ⟨i + 1, A', c', by omega, ?_, by omega, ?_⟩, by omega⟩
          · rw [hts, List.length_append]
          · intro h r
            have := hO' h r
            rw [hts, List.length_append, bts_append]
            exact this
  · have hge : i = ls.length := by have := of_decide_eq_false h; simp only at this; omega
    have hall : dataOf ((splitF x mtu).1.take i) = x.data := by
      rw [hge, hlen, List.take_length]; exact hw1
    rw [hall] at hO
    have hl1 : 1 ≤ ls.length := by rw [hlen, hq0]; simp
    refine aw ⟨fun _ => ?_, fun h => ?_⟩
    · rw [hall]
      refine ld_str (rd_chunk 4 rfl (fun h r => (hO h r).rd)) slc22 (by kernel_rfl) (by kernel_rfl) rfl ?_
      refine ⟨btx x.data, fun W2 h2 hf2 n => run_str hx.1 (hb.step n.step).1 slc22 (by kernel_rfl) (by kernel_rfl) c, ?_⟩
      refine ⟨fun _ => ⟨⟨hva (by omega), by omega, by simp only; omega⟩, ?_⟩, fun h => ?_⟩
      · have hz : 0 < ls.length := by omega
        have ho : ls[0].1.opts = x.opts := by
          rw [← hget 0 hz, ← hqo]
          simp [hq0]
        refine ld_cellf (k := 0) (f := 9) (rd_chunk 2 rfl pks_rd) (by kernel_rfl) (r := oT) ls[0].1.opts ?_ ?_
        · have := flat_cell It.cells 11 It.len ls 0 9 hz (by omega)
          rw [Nat.zero_mul] at this
          rw [this]; rfl
        · refine q_none ⟨?_, rfl⟩
          show Vo _ = Vo true
          rw [ho]
          simp
      · simp at h
    · exfalso
      simp at h
      omega
end Go.Proofs.SplitVc
