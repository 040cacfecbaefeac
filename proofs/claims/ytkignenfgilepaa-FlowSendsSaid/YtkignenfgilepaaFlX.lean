/- FlowSends: the contract. -/
import Derived.Test.YtkignenfgilepaaFlW
open Go Go.SL Go.Proofs
set_option maxRecDepth 100000
set_option linter.unusedVariables false
namespace Go.Proofs.FlowVc
theorem peek_eq {first : Nat} {all : List UInt8} (hf : first ≤ all.length) (x y : Int) : peekF first (all.drop first) x y = match rpeekF first all x y with | none => ([], 1) | some l => (l, 0) := by
  unfold peekF rpeekF
  have hdl : (all.drop first).length = all.length - first := by simp
  by_cases h1 : (first : Int) ≤ x ∧ x - first ≤ ((all.drop first).length : Int)
  · rw [if_pos h1]
    by_cases h2 : y < 0
    · rw [if_pos h2, if_pos (by omega)]
    · rw [if_neg h2, if_neg (by omega), List.drop_drop]
      have : first + (x - first).toNat = x.toNat := by omega
      rw [this]
  · rw [if_neg h1, if_pos (by omega)]
theorem total_take (os : List Opx) (i : Nat) (hi : i < os.length) : total (os.take (i + 1)) = total (os.take i) + os[i].d.length := by
  unfold total
  rw [List.take_succ_eq_append_getElem hi, List.map_append, List.sum_append]
  simp only [List.map_cons, List.map_nil, List.sum_cons, List.sum_nil, Nat.add_zero]
theorem total_le (os : List Opx) (i : Nat) : total (os.take i) ≤ total os := by
  have : os = os.take i ++ os.drop i := (List.take_append_drop i os).symm
  unfold total
  conv => rhs; rw [this, List.map_append, List.sum_append]
  omega
theorem call_rpeek2 {c : Ctx} {cs : List Ch} {b : Nat} {size : Int} {first : Nat} {all : List UInt8} {A : Option Addr} {cp : Nat} (e1 : cs[1]? = some (.blk b [Vi size, Vs A all.length cp, Vi first] 55)) (e7 : cs[7]? = some (.own (RdO A cp all))) (e6 : cs[6]? = some .none) (hal : all.length ≤ 100000) (x y : Int) (hx : -9223372036854775808 ≤ x ∧ x ≤ 9223372036854775807) (hy : -9223372036854775808 ≤ y ∧ y ≤ 9223372036854775807)
    {a : List UInt8} {e : Int} (hae : (match rpeekF first all x y with | none => (([] : List UInt8), (1 : Int)) | some l => (l, 0)) = (a, e))
    {k : (OS.tup [TS.one .slc, TS.one (Sc.int .i64)]).ty → TupF [(6, .own)] → Prop} (hk : ∀ B c' (O : Hp → Prop), (∀ h, O h → Rd h B (bts a)) → k ((B, a.length, c'), e, pU) (O, pU)) :
    (hops Try.prog c).call (OS.tup [TS.one .slc, TS.one (Sc.int .i64)]) 30 [Vp (some ⟨b, 0, none⟩), Vi x, Vi y] cs [(6, .own)] k := by
  refine call_rpeek e1 e7 e6 hal x y hx hy (fun hp => ?_) fun l hp A' c' => ?_
  · rw [hp] at hae
    simp only [Prod.mk.injEq] at hae
    obtain ⟨rfl, rfl⟩ := hae
    exact hk none 0 _ fun h _ => Rd.nil _ _
  · rw [hp] at hae
    simp only [Prod.mk.injEq] at hae
    obtain ⟨rfl, rfl⟩ := hae
    exact hk A' c' _ fun h r => Row.rd r
theorem flowSends_ok {W : World} {g : Hp} (hg : In W g) (room : Int) {A : Option Addr} {c : Nat} (os : List Opx) (hA : Rd g A (os.flatMap Opx.cells)) (hos : ∀ o ∈ os, o.ok g) (hl : os.length ≤ 9223372036854775807) :
    Ok Try.prog 5 #[Vi room, Vs A os.length c] W Hp.emp fun r h' _ => r = Vo true ∧ h' = Hp.emp := by
  have hb : Base ⟨W, Hp.emp⟩ g := ⟨hg, Disj.emp_left _⟩
  refine exec_ok' (P := Try.prog) a5 (fn := Try.f5) (by kernel_rfl) (args := [.raw (Vi room), .raw (Vs A os.length c)]) (cs := [.none, .none, .none, .none, .none, .none, .none, .none]) (vs := [Vi room, Vs A os.length c]) rfl (by kernel_rfl) (In.emp W) (satL_none (satL_none (satL_none (satL_none (satL_none (satL_none (satL_none (satL_none rfl)))))))) (R := fun r h' => r = Vo true ∧ h' = Hp.emp) ?_
  rw [v5]
  refine call_read (by kernel_rfl) hb fun W1 h1 i1 s1 ig dg => Ok.mono (few_ok ig os hA hos hl) fun r h' W' _ _ hr => ⟨_, hr, fun h => q_none ⟨rfl, rfl⟩, fun h => ?_⟩
  have hfew : os.length ≤ 60 ∧ total os ≤ 3000 := by simpa using h
  obtain ⟨h60, h3000⟩ := hfew
  clear h
  refine call_make 0 (by kernel_rfl) rfl (Base.emp _) fun W1 h1 i1 s1 ig dg => Ok.mono (NewSender_ok room) fun r h' W' _ _ hr => ?_
  by_cases hroom : 1 ≤ room ∧ room ≤ 65535
  rotate_left
  · rw [if_neg hroom] at hr
    refine ⟨(none, 1, pU), fun h => h = Hp.emp, hr.1, hr.2, fun _ => ?_, fun h => ?_⟩
    · refine call_read (by kernel_rfl) (Base.emp _) fun W1 h1 i1 s1 ig dg => Ok.mono awake_ok fun r h' W' _ _ hr => ⟨true, hr, q_none ⟨rfl, rfl⟩⟩
    · simp at h; omega
  rw [if_pos hroom] at hr
  obtain ⟨b0, hr, ho⟩ := hr
  refine ⟨(some ⟨b0, 0, none⟩, 0, pU), SndO b0 room 0 [], hr, ho, fun h => ?_, fun _ => ⟨fun h => absurd h (by simp), fun _ b => ?_⟩⟩
  · simp at h; omega
  refine ⟨fun x y => ∃ (i first : Nat) (all : List UInt8) (Ax : Option Addr) (cx : Nat), i ≤ os.length ∧ x.1 = (i : Int) ∧ y.1 = SndO b0 room first (all.drop first) ∧ y.2.1 = (room, (Ax, all.length, cx), (first : Int), pU) ∧ y.2.2.2.2.2.1 = RdO Ax cx all ∧ first ≤ all.length ∧ ((all.drop first).length : Int) ≤ room ∧ all.length ≤ total (os.take i),
    fun x y => os.length - x.1.toNat, ⟨(SndO b0 room 0 [], (room, (none, 0, 0), 0, pU), pU, pU, pU, RdO none 0 [], pU), ent_same (ent_same (ent_same (ent_same (ent_same (ent_same (ent_same (ent_ownE ⟨Rd.nil _ _, Nat.le_refl _⟩ ent_nil))))))), 0, 0, [], none, 0, by omega, rfl, rfl, rfl, rfl, by simp, by simp; omega, by simp⟩, ?_⟩
  rintro ⟨x1, _⟩ ⟨O0, bx, _, _, _, O7, _⟩ ⟨i, first, all, Ax, cx, hi, hx1, hO0, hbx, hO7, hfa, hdr, hal⟩
  simp only at hx1 hO0 hbx hO7
  subst hx1 hO0 hbx hO7
  refine ⟨fun h => ?_, fun h => ?_⟩
  rotate_left
  · refine call_read (by kernel_rfl) (Base.emp _) fun W1 h1 i1 s1 ig dg => Ok.mono awake_ok fun r h' W' _ _ hr => ⟨true, hr, q_none ⟨rfl, rfl⟩⟩
  have hlt : i < os.length := by have := of_decide_eq_true h; simp only at this; omega
  clear h
  obtain ⟨o, ho⟩ : ∃ o, os[i] = o := ⟨_, rfl⟩
  have hok : o.ok g := hos o (by rw [← ho]; exact List.getElem_mem hlt)
  have htt := total_take os i hlt
  have htl := total_le os (i + 1)
  rw [ho] at htt
  obtain ⟨hrd, hdc, _, hcall, hat, hnn⟩ := hok
  have hne : A ≠ none := hA.some (by rw [flat_len Opx.cells 4 cells4]; omega)
  simp only
  rw [Int.toNat_natCast]
  refine ⟨⟨hne, by omega, by omega⟩, ldB_op hb hA i hlt fun b1 b2 => ?_⟩
  rw [ho]
  simp only
  have hdl : (all.drop first).length = all.length - first := by simp
  refine call_make 4 (by kernel_rfl) rfl hb fun W' h' i' s' ig d1 => ?_
  have hboth := Both_ok (W := W') (g := h'.un g) (i'.un ig) (A := some ⟨b2, 0, none⟩) (c := 1) [⟨o.A, o.c, o.d⟩] (by
      have := rd_blkc (cs := _) 3 rfl h' s'
      exact Rd.left this) (by
      intro y hy
      rw [List.mem_singleton.1 hy]
      exact ⟨hrd.right d1, hdc⟩) (by simp) (by simp; omega)
  have ef : [(⟨o.A, o.c, o.d⟩ : Bx)].flatMap Bx.d = o.d := by simp
  rw [ef] at hboth
  refine Ok.mono hboth fun r h'' W'' _ _ ⟨A4, c4, hr, ho4⟩ => ⟨(A4, o.d.length, c4), Row 5 1 (A4, o.d.length, c4) (bts o.d), hr, ho4, ?_⟩
  refine ⟨fun x y => x.1 = true ∧ ∃ (first : Nat) (all : List UInt8) (Ax : Option Addr) (cx : Nat), y.1 = SndO b0 room first (all.drop first) ∧ y.2.1 = (room, (Ax, all.length, cx), (first : Int), pU) ∧ y.2.2.2.2.1 = RdO Ax cx all ∧ first ≤ all.length ∧ ((all.drop first).length : Int) ≤ room ∧ all.length ≤ total (os.take (i + 1)), ⟨fun h => ?_, fun h => ⟨fun h' => ?_, fun h' => ?_⟩⟩, ?_⟩
  · obtain ⟨kk, hkk⟩ : ∃ kk, min o.d.length (room - ((all.drop first).length : Int)).toNat = kk := ⟨_, rfl⟩
    refine call_ownR 0 4 (by kernel_rfl) rfl rfl (by decide) (Base.emp _) fun W1 h1 h2 i1 i2 o1 s2 _ d1 _ _ => ?_
    have s2' : Row 5 1 (A4, o.d.length, c4) (bts o.d) h2 := s2
    have hw := Write_ok i2 i1 d1 o1 hdr (by omega) s2'.rd s2'.2.1 (by omega)
    rw [hkk] at hw
    refine Ok.mono hw fun r h' W' _ _ ⟨hr, ho⟩ => ⟨((kk : Int), 0, pU), _, hr, ho, ?_⟩
    refine call_rwrite hb rfl rfl hfa (by omega) (by omega) (by omega) hrd hdc (by omega) (kk := kk) (by rw [← hkk, hdl]) fun A' c' => ?_
    have hlen : (all ++ o.d.take kk).length = all.length + kk := by simp; omega
    have hdd : all.drop first ++ o.d.take kk = (all ++ o.d.take kk).drop first := by rw [List.drop_append_of_le_length hfa]
    rw [hdd]
    refine ⟨(SndO b0 room first ((all ++ o.d.take kk).drop first), (room, (A', (all ++ o.d.take kk).length, c'), (first : Int), pU), pU, pU, RdO A' c' (all ++ o.d.take kk), pU), ent_same (ent_same (ent_same (ent_same (ent_same (ent_same (ent_same (ent_same ent_nil))))))), by simp, first, all ++ o.d.take kk, A', c', rfl, rfl, rfl, by omega, ?_, by omega⟩
    rw [List.length_drop, hlen]
    omega
  · refine call_use_make 0 5 (by kernel_rfl) rfl rfl (Base.emp _) fun W1 h1 h2 i1 i2 hs' ig d12 d1 d2 => ?_
    have hpk := Peek_ok i1 hs' (by omega) (by omega) o.at_ o.n hat
    rw [peek_eq hfa] at hpk
    obtain ⟨a, e, hae⟩ : ∃ a e, (match rpeekF first all o.at_ o.n with | none => (([] : List UInt8), (1 : Int)) | some l => (l, 0)) = (a, e) := ⟨_, _, rfl⟩
    rw [hae] at hpk
    refine Ok.mono hpk fun r h' W' _ _ ⟨A5, c5, hr, g1, g2, dd, eh, t1, t2⟩ => ⟨((A5, a.length, c5), e, pU), g1, g2, Row 5 1 (A5, a.length, c5) (bts a), hr, dd, by rw [eh]; exact Sub.refl _, t1, t2, (fun hA5 => ?_) t2⟩
    refine call_rpeek2 rfl rfl rfl (by omega) o.at_ o.n hat hnn hae fun B6 c6 O6 hO6 => ?_
    refine v_strC (rd_chunk 5 rfl fun h r => Row.rd r) slc30 u5 u9 rfl ?_
    refine v_strC (rd_chunk 6 rfl hO6) slc30 u5 u9 rfl ?_
    refine ⟨fun x y => ∃ (k : Nat) (l : List UInt8), k ≤ a.length ∧ x.1 = (k : Int) ∧ l.length = a.length ∧ ∀ h, y.1 h → Row 5 1 (A5, a.length, c5) (bts l) h, fun x y => a.length - x.1.toNat, ⟨(Row 5 1 (A5, a.length, c5) (bts a), pU), ent_same (ent_same (ent_same (ent_same (ent_same (ent_same (ent_same (ent_same ent_nil))))))), 0, a, by omega, rfl, rfl, fun h o => o⟩, ?_⟩
    rintro ⟨x2, _⟩ ⟨O5, _⟩ ⟨k, l, hk, hx2, hll, hO5⟩
    simp only at hx2 hO5
    subst hx2
    refine ⟨fun h => ?_, fun h => ?_⟩
    · have hkl : k < a.length := by have := of_decide_eq_true h; simp only at this; omega
      have hal3 : a.length ≤ 100000 := by
        have : a.length ≤ all.length := by
          cases hp : rpeekF first all o.at_ o.n with
          | none => rw [hp] at hae; simp only [Prod.mk.injEq] at hae; rw [← hae.1]; simp
          | some l0 =>
            rw [hp] at hae
            simp only [Prod.mk.injEq] at hae
            unfold rpeekF at hp
            split at hp
            · cases hp
            · rw [← hae.1, ← Option.some.inj hp]; simp; omega
        omega
      simp only
      rw [Int.toNat_natCast, Nat.mul_one]
      refine ⟨⟨?_, by omega, by omega⟩, u_byte 5 rfl hO5 rfl 7 rfl (by kernel_rfl) (by omega) fun O' hO' x hx => ?_⟩
      · have hk2 : 0 < a.length := by omega
        exact Row.some hA5 hk2
      rw [wr_id (by omega) (by omega)] at hx
      subst hx
      exact ⟨(O', pU), ent_same (ent_same (ent_same (ent_same (ent_same (ent_same (ent_same (ent_same ent_nil))))))), ⟨k + 1, l.set k 7, by omega, rfl, by simp [hll], hO'⟩, by omega⟩
    · exact ⟨(SndO b0 room first (all.drop first), (room, (Ax, all.length, cx), (first : Int), pU), pU, pU, RdO Ax cx all, pU), ent_same (ent_same (ent_same (ent_same (ent_same (ent_gone (ent_gone (ent_same ent_nil))))))), by simp, first, all, Ax, cx, rfl, rfl, rfl, hfa, hdr, by omega⟩
  · refine call_own 0 (by kernel_rfl) rfl hb fun W1 h1 h2 i1 i2 o1 ig d12 d1 d2 => ?_
    have hdrop := Drop_ok i1 o1 (by omega) (by omega) o.at_ hat
    by_cases hc : (first : Int) ≤ o.at_ ∧ o.at_ ≤ (all.length : Int)
    · obtain ⟨u, hu⟩ : ∃ u : Nat, o.at_ = ((first + u : Nat) : Int) := ⟨(o.at_ - first).toNat, by omega⟩
      have hdn : dropN (first : Int) (all.drop first) o.at_ = some u := by
        unfold dropN
        rw [if_pos (by omega)]
        congr 1
        omega
      rw [hdn] at hdrop
      refine Ok.mono hdrop fun r h' W' _ _ ⟨hr, ho⟩ => ⟨((u : Int), 0, pU), _, hr, ho, ?_⟩
      refine call_blk 1 (by kernel_rfl) rfl hb fun W1 h1 h2 i1 i2 e1 ig _ _ _ => ?_
      have hrd := refDrop_ok i1 (n := all.length) (c := cx) (A := Ax) (size := room) e1 hfa (by omega) o.at_
      simp only [if_pos hc] at hrd
      refine Ok.mono hrd fun r h' W' _ _ ⟨hr, ho⟩ => ⟨(o.at_ - first, 0, pU), (room, (Ax, all.length, cx), o.at_, pU), hr, ho, ?_⟩
      refine ⟨(SndO b0 room ((first : Int) + u) ((all.drop first).drop u), (room, (Ax, all.length, cx), o.at_, pU), pU, pU, RdO Ax cx all, pU), ent_same (ent_same (ent_same (ent_same (ent_same (ent_same (ent_same (ent_same ent_nil))))))), ?_, first + u, all, Ax, cx, ?_, ?_, rfl, by omega, ?_, by omega⟩
      · have : (u : Int) = o.at_ - first := by omega
        simp [this]
      · rw [List.drop_drop, Int.natCast_add]
      · simp only; rw [hu]
      · rw [List.length_drop]; omega
    · have hdn : dropN (first : Int) (all.drop first) o.at_ = none := by
        unfold dropN
        rw [if_neg (by omega)]
      rw [hdn] at hdrop
      refine Ok.mono hdrop fun r h' W' _ _ ⟨hr, ho⟩ => ⟨(0, 1, pU), _, hr, ho, ?_⟩
      refine call_blk 1 (by kernel_rfl) rfl hb fun W1 h1 h2 i1 i2 e1 ig _ _ _ => ?_
      have hrd := refDrop_ok i1 (n := all.length) (c := cx) (A := Ax) (size := room) e1 hfa (by omega) o.at_
      simp only [if_neg hc] at hrd
      refine Ok.mono hrd fun r h' W' _ _ ⟨hr, ho⟩ => ⟨(0, 1, pU), (room, (Ax, all.length, cx), (first : Int), pU), hr, ho, ?_⟩
      exact ⟨(SndO b0 room first (all.drop first), (room, (Ax, all.length, cx), (first : Int), pU), pU, pU, RdO Ax cx all, pU), ent_same (ent_same (ent_same (ent_same (ent_same (ent_same (ent_same (ent_same ent_nil))))))), by simp, first, all, Ax, cx, rfl, rfl, rfl, hfa, hdr, by omega⟩
  · rintro ⟨ok, _⟩ ⟨O0, bx, _, _, O7, _⟩ ⟨hok, first, all, Ax, cx, hO0, hbx, hO7, hfa, hdr, hal⟩
    simp only at hok hO0 hbx hO7
    subst hok hO0 hbx hO7
    have hdl : (all.drop first).length = all.length - first := by simp
    refine Ends_call 0 rfl (by omega) (by omega) ⟨fun h => absurd h (by simp), fun _ => ?_⟩
    refine v_strC (rd_chunk 4 rfl fun h r => Row.rd r) slc30 u5 u9 rfl ?_
    refine v_strB hb hrd slc30 u5 u9 rfl ⟨fun h => ?_, fun _ => ?_⟩
    · exfalso
      simp at h
      omega
    refine ⟨fun x y => ∃ (k : Nat) (l : List UInt8), k ≤ o.d.length ∧ x.1 = (k : Int) ∧ l.length = o.d.length ∧ ∀ h, y.1 h → Row 5 1 (A4, o.d.length, c4) (bts l) h, fun x y => o.d.length - x.1.toNat, ⟨(Row 5 1 (A4, o.d.length, c4) (bts o.d), pU), ent_same (ent_same (ent_same (ent_same (ent_same (ent_same (ent_same (ent_same ent_nil))))))), 0, o.d, by omega, rfl, rfl, fun h o => o⟩, ?_⟩
    rintro ⟨x2, _⟩ ⟨O4, _⟩ ⟨k, l, hk, hx2, hll, hO4⟩
    simp only at hx2 hO4
    subst hx2
    refine ⟨fun h => ?_, fun h x3 hx3 => ?_⟩
    · have hkl : k < o.d.length := by have := of_decide_eq_true h; simp only at this; omega
      have hA4 : A4 ≠ none := ho4.some (by omega)
      simp only
      rw [Int.toNat_natCast, Nat.mul_one]
      refine ⟨⟨hA4, by omega, by omega⟩, u_byte 4 rfl hO4 rfl 7 rfl (by kernel_rfl) (by omega) fun O' hO' x hx => ?_⟩
      rw [wr_id (by omega) (by omega)] at hx
      subst hx
      exact ⟨(O', pU), ent_same (ent_same (ent_same (ent_same (ent_same (ent_same (ent_same (ent_same ent_nil))))))), ⟨k + 1, l.set k 7, by omega, rfl, by simp [hll], hO'⟩, by omega⟩
    · rw [wr_id (by omega) (by omega)] at hx3
      subst hx3
      exact ⟨(SndO b0 room first (all.drop first), (room, (Ax, all.length, cx), (first : Int), pU), pU, pU, pU, RdO Ax cx all, pU), ent_same (ent_same (ent_gone (ent_gone (ent_gone (ent_same (ent_same (ent_same ent_nil))))))), ⟨i + 1, first, all, Ax, cx, by omega, rfl, rfl, rfl, rfl, hfa, hdr, hal⟩, by omega⟩
end Go.Proofs.FlowVc
