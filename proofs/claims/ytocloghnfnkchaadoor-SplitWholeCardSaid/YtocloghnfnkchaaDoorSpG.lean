/- Split. -/
import Derived.Test.YtocloghnfnkchaaDoorSpF
open Go Go.SL Go.Proofs
set_option maxRecDepth 100000
set_option linter.unusedVariables false
namespace Go.Proofs.SplitVc
def checkD (x : Pd) : Int := checkE (x.pk none 0)
theorem checkE_pk (x : Pd) (A : Option Addr) (c : Nat) : checkE (x.pk A c) = checkD x := rfl
/-- Split's answer. -/
def splitF (x : Pd) (mtu : Int) : List Pd × Int :=
  if checkD x ≠ 0 then ([], checkD x)
  else if mtu < 68 then ([], 1)
  else if 20 + (x.opts.size : Int) + (x.data.length : Int) ≤ mtu then ([x], 0)
  else if x.df = true then ([], 181)
  else if (laterF x.opts.data.toList).2 ≠ 0 then ([], (laterF x.opts.data.toList).2)
  else match piecesF (x.data.length + 1) x mtu (btx (laterF x.opts.data.toList).1) with
    | none => ([], 2)
    | some l => (l, 0)
def SplitR (x : Pd) (mtu : Int) (r : Value) (h : Hp) : Prop :=
  ((splitF x mtu).2 ≠ 0 ∧ r = .tuple #[Vs none 0 0, Vi (splitF x mtu).2] ∧ h = Hp.emp) ∨
  ((splitF x mtu).2 = 0 ∧ ∃ v ls, r = .tuple #[Vs v.1 v.2.1 v.2.2, Vi 0] ∧ ls.map (·.1) = (splitF x mtu).1 ∧ v.2.1 = ls.length ∧ Pks v ls h)
theorem checkD_zero {x : Pd} (h : checkD x = 0) : withinL [x.tos, 255, x.ttl, 255, x.proto, 255, x.id, 65535, x.off, 65528] = true ∧ x.off.tmod 8 = 0 ∧ x.src.size = 4 ∧ x.dst.size = 4 ∧
    (x.opts.size : Int).tmod 4 = 0 ∧ (x.opts.size : Int) ≤ 40 ∧ wr (wr (20 + (x.opts.size : Int)) + (x.data.length : Int)) ≤ 65535 := by
  unfold checkD checkE at h
  split at h
  · cases h
  · rename_i h1
    split at h
    · cases h
    · rename_i h2
      split at h
      · cases h
      · rename_i h3
        split at h
        · cases h
        · rename_i h4
          simp only at h1 h2 h3 h4
          refine ⟨?_, ?_, ?_, ?_, ?_, ?_, by omega⟩
          · cases e : withinL [x.tos, 255, x.ttl, 255, x.proto, 255, x.id, 65535, x.off, 65528] with
            | true => rfl
            | false => exact absurd (.inl e) h1
          · exact Classical.byContradiction fun e => h1 (.inr e)
          · omega
          · omega
          · exact Classical.byContradiction fun e => h3 (.inl e)
          · exact Int.not_lt.1 fun e => h3 (.inr e)
theorem checkD_sum {x : Pd} (h : checkD x = 0) (hd : x.data.length ≤ 1000000) : 20 + (x.opts.size : Int) + (x.data.length : Int) ≤ 65535 ∧ x.opts.size % 4 = 0 ∧ x.opts.size ≤ 40 ∧ 0 ≤ x.off ∧ x.off ≤ 65528 := by
  obtain ⟨h1, h2, h3, h4, h5, h6, h7⟩ := checkD_zero h
  rw [wr_id (n := 20 + (x.opts.size : Int)) (by omega) (by omega), wr_id (by omega) (by omega)] at h7
  rw [Int.tmod_eq_emod_of_nonneg (by omega)] at h5
  refine ⟨h7, by omega, by omega, ?_⟩
  simp only [withinL, Bool.and_eq_true, decide_eq_true_eq] at h1
  omega
theorem laterF_bts {s : ByteArray} (h4 : s.size % 4 = 0) (h40 : s.size ≤ 40) : (btx (laterF s.data.toList).1).size ≤ 40 := by
  rw [btx_size]
  have hs : s.data.toList.length = s.size := by simp
  have := (laterF_size (s := s.data.toList) (t := (laterF s.data.toList).1) (e := (laterF s.data.toList).2) rfl (by rw [hs]; exact h4)).2
  rw [hs] at this; omega
theorem Split_ok {W : World} {g : Hp} (hg : In W g) (hlaid : Laid g) (x : Pd) (A : Option Addr) (c : Nat) (hx : It.ok (x, A, c) g) (mtu : Int) (hd : x.data.length ≤ 1000000) :
    Ok Tryd.prog 7 #[(x.pk A c).val, Vi mtu] W Hp.emp fun r h' _ => SplitR x mtu r h' := by
  have hb : Base ⟨W, Hp.emp⟩ g := ⟨hg, Disj.emp_left _⟩
  refine exec_ok' (P := Tryd.prog) b7 (fn := Tryd.f7) (by kernel_rfl) (args := [.raw (x.pk A c).val, .raw (Vi mtu)]) (cs := [.none, .none, .none]) (vs := [(x.pk A c).val, Vi mtu]) rfl (by kernel_rfl) (In.emp W)
    (satL_none (satL_none (satL_none rfl))) (R := SplitR x mtu) ?_
  rw [vb7]
  intro b
  refine call_read (by kernel_rfl) hb fun W1 h1 i1 s1 ig dg => ?_
  refine Ok.mono (Check_ok ig hlaid (x.pk A c)) fun v h' W' _ _ ⟨hv, _⟩ => ?_
  subst hv
  rw [checkE_pk]
  refine ⟨checkD x, rfl, fun h => ?_, fun h => ?_⟩
  · have hne : checkD x ≠ 0 := by simpa using h
    refine q_none (.inl ?_)
    unfold splitF
    rw [if_pos hne]
    exact ⟨hne, rfl, rfl⟩
  have h0 : checkD x = 0 := by simpa using h
  obtain ⟨hsum, ho4, ho40, hoff0, hoff⟩ := checkD_sum h0 hd
  refine ⟨fun h => ?_, fun h => ?_⟩
  · refine q_none (.inl ?_)
    unfold splitF
    rw [if_neg (by omega), if_pos (of_decide_eq_true h)]
    exact ⟨by decide, rfl, rfl⟩
  have hm : ¬ mtu < 68 := of_decide_eq_false h
  have hw : wr (wr (20 + (x.opts.size : Int)) + (x.data.length : Int)) = 20 + (x.opts.size : Int) + (x.data.length : Int) := by
    rw [wr_id (n := 20 + (x.opts.size : Int)) (by omega) (by omega), wr_id (by omega) (by omega)]
  simp only [hw]
  refine ⟨fun h => ?_, fun h => ?_⟩
  · refine call_make 2 (by kernel_rfl) rfl hb fun W1 h1' i1 s1 ig dg1 => ?_
    refine Ok.mono (Clone_ok (c := c) ig hx.1 hx.2.1 hd) fun r h' W' _ _ ⟨A', c', hr, hnil', hrow⟩ => ?_
    subst hr
    refine ⟨(A', x.data.length, c'), Row 5 1 (A', x.data.length, c') (bts x.data), rfl, hrow, ?_⟩
    intro b1
    refine q_two 1 2 rfl rfl (by decide) fun q1 q2 d s1 s2 => .inr ?_
    have s2 : Row 5 1 (A', x.data.length, c') (bts x.data) q2 := s2
    have s1 : q1 = Hp.one b1 (.cells (x.pk A' c').cells.toArray 24 (0, 0)) := s1
    have e : splitF x mtu = ([x], 0) := by
      unfold splitF
      rw [if_neg (by omega), if_neg hm, if_pos (of_decide_eq_true h)]
    rw [e]
    refine ⟨rfl, (some ⟨b1, 0, none⟩, 1, 1), [(x, A', c')], rfl, rfl, rfl, q1, q2, d, rfl, ⟨rfl, Nat.le_refl _, (by decide : 1 ≤ maxLen), .inr ⟨b1, [], rfl, rfl, ?_⟩⟩, ?_⟩
    · rw [s1]; rfl
    · intro y hy
      rw [List.mem_singleton.1 hy]
      exact ⟨s2.rd, hnil', s2.2.1⟩
  have hbig : ¬ (20 + (x.opts.size : Int) + (x.data.length : Int) ≤ mtu) := of_decide_eq_false h
  refine ⟨fun h => ?_, fun hdf => ?_⟩
  · refine q_none (.inl ?_)
    unfold splitF
    rw [if_neg (by omega), if_neg hm, if_neg hbig, if_pos h]
    exact ⟨by decide, rfl, rfl⟩
  have hdf' : ¬ x.df = true := by intro e; have hdf : x.df = false := hdf; rw [e] at hdf; cases hdf
  refine call_read (by kernel_rfl) hb fun W1 h1' i1 s1 ig dg1 => ?_
  have hLk := Later_ok (W := W1) x.opts.data.toList (by simp; omega) fun o h => rep_any h
  rw [btx_data] at hLk
  refine Ok.mono hLk fun r h' W' _ _ ⟨hr, _⟩ => ?_
  subst hr
  refine ⟨(btx (laterF x.opts.data.toList).1, (laterF x.opts.data.toList).2, pU), rfl, fun h => ?_, fun h => ?_⟩
  · have hne : (laterF x.opts.data.toList).2 ≠ 0 := by simpa using h
    refine q_none (.inl ?_)
    unfold splitF
    rw [if_neg (by omega), if_neg hm, if_neg hbig, if_neg hdf', if_pos hne]
    exact ⟨hne, rfl, rfl⟩
  have hl0 : ¬ (laterF x.opts.data.toList).2 ≠ 0 := by simpa using h
  refine call_make 2 (by kernel_rfl) rfl hb fun W2 h2 i2 s2 ig2 dg2 => ?_
  have hpc := pieces_ok (x.data.length + 1) ig2 (In.emp W2) (Disj.emp_left g) x A c mtu (btx (laterF x.opts.data.toList).1) (none, 0, 0) [] (by omega) hx
    ⟨Hp.emp, Hp.emp, Disj.emp_left _, rfl, Row.nil _ _ _, fun y hy => by cases hy⟩ rfl (by omega) (by omega) ho40 (laterF_bts ho4 ho40) hoff0 (by simp; omega)
  refine Ok.mono hpc fun r h' W' _ _ hr => ?_
  have e : splitF x mtu = match piecesF (x.data.length + 1) x mtu (btx (laterF x.opts.data.toList).1) with | none => ([], 2) | some l => (l, 0) := by
    unfold splitF
    rw [if_neg (by omega), if_neg hm, if_neg hbig, if_neg hdf', if_neg hl0]
  cases hp : piecesF (x.data.length + 1) x mtu (btx (laterF x.opts.data.toList).1) with
  | none =>
    rw [hp] at hr e
    obtain ⟨rfl, rfl⟩ := hr
    refine ⟨((none, 0, 0), 2, pU), Emp, rfl, rfl, q_none (.inl ?_)⟩
    rw [e]
    exact ⟨by decide, rfl, rfl⟩
  | some l =>
    rw [hp] at hr e
    obtain ⟨v, ls, rfl, hls, hvn, hpk⟩ := hr
    refine ⟨(v, 0, pU), Pks v ([] ++ ls), rfl, hpk, q_own 2 rfl fun h' hp' => .inr ?_⟩
    rw [e]
    exact ⟨rfl, v, ls, rfl, hls, hvn, hp'⟩
end Go.Proofs.SplitVc
