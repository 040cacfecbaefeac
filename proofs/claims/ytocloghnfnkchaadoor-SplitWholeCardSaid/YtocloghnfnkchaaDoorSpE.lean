/- Later. -/
import Derived.Test.YtocloghnfnkchaaDoorSpD
import Derived.Test.YtocloghnfnkchaaDoorRep
open Go Go.SL Go.Proofs
set_option maxRecDepth 100000
set_option linter.unusedVariables false
namespace Go.Proofs.SplitVc
/-- What is asked of strings.Repeat. -/
def RepOk (n : Nat) : Prop := ∀ W : World, Ok Tryd.prog 20 #[Vt (btx [0]), Vi n] W Hp.emp fun r h' _ => r = Vt (btx (List.replicate n 0)) ∧ h' = Hp.emp
theorem rep_ok (n : Nat) (hn : n ≤ 1000000) : RepOk n := fun W => by
  have h := Tryd.strings_Repeat (btx [0]) n W (by omega) (by rw [btx_size]; simp; omega)
  have e : (⟨(Lib.repeatL (btx [0]).data.toList n).toArray⟩ : ByteArray) = btx (List.replicate n 0) := by
    unfold btx
    congr 2
    have : ∀ n, Lib.repeatL ([0] : List UInt8) n = List.replicate n 0 := by
      intro n
      induction n with
      | zero => rfl
      | succ n ih => simp [Lib.repeatL, List.replicate_succ, ih]
    exact this n
  rw [e] at h
  exact Ok.ofBelow h
theorem rep0 : RepOk 0 := rep_ok 0 (by omega)
theorem rep_any {l : List UInt8} {o : List (UInt8 × List UInt8)} (h : optsL (l.length + 1) l = some o) : RepOk (padL (laterL o).length) := rep_ok _ (by unfold padL; omega)
theorem laterL_take_succ (o : List (UInt8 × List UInt8)) (i : Nat) (h : i < o.length) :
    laterL (o.take (i + 1)) = laterL (o.take i) ++ (if 128 ≤ o[i].1.toNat then o[i].1 :: UInt8.ofNat (o[i].2.length + 2) :: o[i].2 else []) := by
  rw [List.take_succ_eq_append_getElem h]
  unfold laterL
  rw [List.flatMap_append, List.flatMap_cons, List.flatMap_nil, List.append_nil]
theorem laterL_take_le (o : List (UInt8 × List UInt8)) (i : Nat) : (laterL (o.take i)).length ≤ (laterL o).length := by
  conv => rhs; rw [← List.take_append_drop i o]
  unfold laterL
  rw [List.flatMap_append, List.length_append]
  omega
set_option maxHeartbeats 1000000 in
theorem Later_ok {W : World} (l : List UInt8) (hl : l.length ≤ 1000000)
    (hR : ∀ o, optsL (l.length + 1) l = some o → RepOk (padL (laterL o).length)) :
    Ok Tryd.prog 13 #[Vt (btx l)] W Hp.emp fun r h' _ => r = .tuple #[Vt (btx (laterF l).1), Vi (laterF l).2] ∧ h' = Hp.emp := by
  have hb : Base ⟨W, Hp.emp⟩ Hp.emp := Base.emp _
  refine exec_ok' (P := Tryd.prog) b13 (fn := Tryd.f13) (by kernel_rfl) (args := [.raw (Vt (btx l))]) (cs := [.none, .none, .none, .none]) (vs := [Vt (btx l)]) rfl (by kernel_rfl) (In.emp W) (satL_none (satL_none (satL_none (satL_none rfl))))
    (R := fun r h' => r = .tuple #[Vt (btx (laterF l).1), Vi (laterF l).2] ∧ h' = Hp.emp) ?_
  rw [vb13]
  refine call_make 3 (by kernel_rfl) rfl hb fun W1 h1 i1 s1 ig dg => ?_
  refine Ok.mono (Options_ok l hl) fun v h' W' _ _ hv => ?_
  cases ho : optsL (l.length + 1) l with
  | none =>
    rw [ho] at hv
    obtain ⟨rfl, rfl⟩ := hv
    refine ⟨((none, 0, 0), 4, pU), fun h => h = Hp.emp, rfl, rfl, (fun _ => q_none ?_), (fun h => absurd h (by simp))⟩
    simp only [laterF, ho]
    exact ⟨rfl, trivial⟩
  | some o =>
    rw [ho] at hv
    obtain ⟨A, c, rfl, hrow⟩ := hv
    refine ⟨((A, o.length, c), 0, pU), Row 53 2 (A, o.length, c) (extL o), rfl, hrow, (fun h => absurd h (by simp)), (fun _ => ?_)⟩
    obtain ⟨hL1, hL2, hL3⟩ := optsL_len _ _ _ ho
    refine ⟨fun x y => ∃ i c A, i ≤ o.length ∧ x.1 = (A, (laterL (o.take i)).length, c) ∧ x.2.1 = (i : Int) ∧ (∀ h, y.2.2.1 h → Row 5 1 (A, (laterL (o.take i)).length, c) (bts (laterL (o.take i))) h),
      fun x y => o.length - x.2.1.toNat, ⟨(pU, pU, fun h => h = Hp.emp, pU), ent_gone (ent_gone (ent_ownE rfl (ent_same ent_nil))), 0, 0, none, by omega, rfl, rfl, ?_⟩, ?_⟩
    · intro h e; subst e; exact Row.nil _ _ _
    · rintro ⟨⟨A1, n1, c1⟩, i', _⟩ ⟨_, _, O, _⟩ ⟨i, c2, A2, hi, h1, h2, h3⟩
      simp only [Prod.mk.injEq] at h1 h2 h3
      obtain ⟨rfl, rfl, rfl⟩ := h1
      subst h2
      simp only
      have hle := laterL_take_le o i
      refine ⟨fun h => ?_, fun h => ?_⟩
      · have hlt : i < o.length := by have := of_decide_eq_true h; omega
        have hA : A ≠ none := hrow.some (by omega)
        refine ⟨⟨hA, by omega, by omega⟩, ?_⟩
        rw [Int.toNat_natCast]
        have hw : wr ((i : Int) + 1) = ((i + 1 : Nat) : Int) := by rw [wr_id (by omega) (by omega)]; omega
        rw [hw]
        have hx3 := hL3 o[i] (List.getElem_mem hlt)
        have hle2 := laterL_take_le o (i + 1)
        have hts := laterL_take_succ o i hlt
        refine ld_at (rd_chunk 3 rfl (fun h (r : Row 53 2 (A, o.length, c) (extL o) h) => r.rd)) (by kernel_rfl) (r := OS.one (TS.agg [Sc.int IntKind.i64, Sc.str])) ((o[i].1.toNat : Int), btx o[i].2, pU) (by rw [extL_len]; omega) ?_ ?_ ?_
        · rw [extL_len, show sizeP Tryd.prog 53 = 2 by kernel_rfl]; omega
        · have e1 : isAggP Tryd.prog 53 = true := by kernel_rfl
          unfold partL
          rw [e1, show sizeP Tryd.prog 53 = 2 by kernel_rfl]
          simp only
          rw [flat_get extC 2 (fun _ => rfl) o i hlt]
          rfl
        · intro b
          refine ⟨fun hk b1 => ?_, fun hk => ?_⟩
          · have hk' : 128 ≤ o[i].1.toNat := by have := of_decide_eq_true hk; simp only at this; omega
            have hk255 : o[i].1.toNat < 256 := o[i].1.toNat_lt
            rw [if_pos hk'] at hts
            have hlen : (laterL (o.take (i + 1))).length = (laterL (o.take i)).length + 2 + o[i].2.length := by rw [hts]; simp; omega
            have e1 : IntKind.u8.wrap (o[i].1.toNat : Int) = (o[i].1.toNat : Int) := by rw [IntKind.wrap_u8]; omega
            have e2 : IntKind.u8.wrap (wr (((btx o[i].2).size : Int) + 2)) = ((UInt8.ofNat (o[i].2.length + 2)).toNat : Int) := by
              rw [btx_size, wr_id (by omega) (by omega), IntKind.wrap_u8, UInt8.toNat_ofNat']; omega
            simp only [e1, e2]
            refine v_append2 2 el22 rfl h3 hb (src_chunk (rd_blkc 1 rfl) rfl (by intro u hu; simp at hu; rcases hu with rfl | rfl <;> rfl) slc22) (by unfold maxLen; omega) (by omega) fun A' c' O' hO' => ?_
            refine v_append2 2 el22 rfl hO' hb (src_str (btx o[i].2) (by kernel_rfl)) (by rw [btx_size]; unfold maxLen; omega) (by rw [btx_size]; omega) fun A' c' O' hO' => ?_
            refine ⟨(pU, pU, O', pU), ent_gone (ent_gone (ent_same (ent_same ent_nil))), ⟨i + 1, c', A', by omega, ?_, rfl, ?_⟩, ?_⟩
            · rw [hlen, btx_size]
            · intro h r
              have := hO' h r
              rw [hlen, hts]
              rw [btx_size] at this
              simp only [btx, bts_append, List.append_assoc] at this ⊢
              simpa [bts] using this
            · show o.length - (((i + 1 : Nat) : Int)).toNat < o.length - ((i : Int)).toNat
              omega
          · have hk' : ¬ 128 ≤ o[i].1.toNat := by have := of_decide_eq_false hk; simp only at this; omega
            rw [if_neg hk', List.append_nil] at hts
            refine ⟨(pU, pU, O, pU), ent_gone (ent_gone (ent_same (ent_same ent_nil))), ⟨i + 1, c1, A1, by omega, ?_, rfl, ?_⟩, ?_⟩
            · rw [hts]
            · rw [hts]; exact h3
            · show o.length - (((i + 1 : Nat) : Int)).toNat < o.length - ((i : Int)).toNat
              omega
      · have hge : i = o.length := by have := of_decide_eq_false h; omega
        subst hge
        rw [List.take_length] at h3 hle ⊢
        refine ld_str (rd_chunk 2 rfl (fun h r => (h3 h r).rd)) slc22 (by kernel_rfl) (by kernel_rfl) rfl ?_
        rw [and3 _ (by omega)]
        refine call_read (by kernel_rfl) hb fun W2 h2 i2 s2 ig2 dg2 => ?_
        refine Ok.mono (hR o ho W2) fun v h' W' _ _ ⟨hv, _⟩ => ?_
        subst hv
        refine ⟨btx (List.replicate (padL (laterL o).length) 0), rfl, fun hbig => ?_, q_none ?_⟩
        · rw [btx_size, btx_size, List.length_replicate] at hbig
          have : padL (laterL o).length < 4 := by unfold padL; omega
          have h0 : IntKind.i64.max = 9223372036854775807 := by decide
          rw [h0] at hbig
          omega
        · rw [btx_app]
          simp only [laterF, ho]
          exact ⟨rfl, trivial⟩
end Go.Proofs.SplitVc
