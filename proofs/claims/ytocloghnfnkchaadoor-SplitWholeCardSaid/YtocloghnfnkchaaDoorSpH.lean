/- awake, SplitMany. -/
import Derived.Test.YtocloghnfnkchaaDoorPlB
open Go Go.SL Go.Proofs
set_option maxRecDepth 100000
set_option linter.unusedVariables false
namespace Go.Proofs.SplitVc
theorem pks_rd {v : Option Addr × Nat × Nat} {l : List It} : ∀ h, Pks v l h → Rd h v.1 (l.flatMap It.cells) := fun h ⟨h1, h2, d, e, r, _⟩ => by subst e; exact r.rd.left
theorem pks_some {v : Option Addr × Nat × Nat} {l : List It} {h : Hp} (p : Pks v l h) (hn : 0 < v.2.1) : v.1 ≠ none := by
  obtain ⟨h1, h2, d, e, r, _⟩ := p
  exact r.some hn
theorem awake_ok {W : World} {g : Hp} (hg : In W g) (hlaid : Laid g) : Ok Tryd.prog 8 #[] W Hp.emp fun r h' _ => r = Vo true ∧ h' = Hp.emp := by
  have hb : Base ⟨W, Hp.emp⟩ g := ⟨hg, Disj.emp_left _⟩
  refine exec_ok' (P := Tryd.prog) b8 (fn := Tryd.f8) (by kernel_rfl) (args := []) (cs := [.none, .none]) (vs := []) rfl (by kernel_rfl) (In.emp W) (satL_none (satL_none rfl)) (R := fun r h' => r = Vo true ∧ h' = Hp.emp) ?_
  rw [vb8]
  refine v_makeS 0 el22 rfl (by omega) (by omega) (by omega) (by omega) hb fun b => ?_
  have hrow : ∀ h, Row 5 1 (some ⟨b, 0, none⟩, (1480 : Int).toNat, (1480 : Int).toNat) ((madeCells (Vb 0).cells ((1480 : Int).toNat * 1)).toList.take ((1480 : Int).toNat * 1)) h → Rd h (some ⟨b, 0, none⟩) (bts (List.replicate 1480 0)) := fun h r => by
    have := r.rd
    rw [made_bts] at this
    exact this
  refine call_make 1 (by kernel_rfl) rfl hb fun W1 h1 i1 s1 ig dg => ?_
  have rd1 := rd_chunk 0 rfl hrow h1 s1
  have hsp := Split_ok (g := h1.un g) (i1.un ig) (hlaid.mono (sub_right dg)) (manyX 1480) (some ⟨b, 0, none⟩) 1480 ⟨rd1.left, (fun e => by cases e), by show (List.replicate 1480 (0 : UInt8)).length ≤ 1480; simp⟩ 820 (by show (List.replicate 1480 (0 : UInt8)).length ≤ 1000000; simp)
  refine Ok.mono hsp fun r h' W' _ _ hr => ?_
  unfold SplitR at hr
  rw [awake_split] at hr
  rcases hr with ⟨h0, _⟩ | ⟨_, v, ls, hr, hls, hvn, hpk⟩
  · exact absurd rfl h0
  subst hr
  rcases ls with _ | ⟨⟨x1, A1, c1⟩, _ | ⟨⟨x2, A2, c2⟩, _ | ⟨z, r⟩⟩⟩
  · simp at hls
  · simp at hls
  · simp only [List.map_cons, List.map_nil, List.cons.injEq, and_true] at hls
    obtain ⟨rfl, rfl⟩ := hls
    obtain ⟨va, vn, vc⟩ := v
    simp only [List.length_cons, List.length_nil] at hvn
    subst hvn
    have hA : va ≠ none := pks_some hpk (by simp)
    refine ⟨((va, 2, vc), 0, pU), _, rfl, hpk, ?_⟩
    refine call_read (by kernel_rfl) hb fun W2 h2 i2 s2 ig2 dg2 => ?_
    refine Ok.mono (Later_ok [7, 3, 4, 148, 4, 0, 0, 0] (by decide) (fun o h => rep_any h)) fun r h' W' _ _ ⟨hr, _⟩ => ?_
    subst hr
    rw [awake_later]
    refine ⟨(btx [148, 4, 0, 0], 0, pU), rfl, fun _ => ⟨⟨hA, by omega, by simp⟩, ?_⟩, fun h => absurd h (by simp)⟩
    refine ld_cellf (rd_chunk 1 rfl pks_rd) (by kernel_rfl) (r := oS) (A1, 800, c1) rfl ⟨fun _ => ⟨⟨hA, by omega, by simp⟩, ?_⟩, fun h => absurd h (by simp)⟩
    refine ld_cellf (rd_chunk 1 rfl pks_rd) (by kernel_rfl) (r := oB) true rfl ⟨fun _ => ⟨⟨hA, by omega, by simp⟩, ?_⟩, fun h => absurd h (by simp)⟩
    refine ld_cellf (rd_chunk 1 rfl pks_rd) (by kernel_rfl) (r := oI) (800 : Int) rfl ⟨fun _ => ⟨⟨hA, by omega, by simp⟩, ?_⟩, fun h => absurd h (by simp)⟩
    refine ld_cellf (rd_chunk 1 rfl pks_rd) (by kernel_rfl) (r := oS) (A2, 680, c2) rfl ⟨fun _ => ⟨⟨hA, by omega, by simp⟩, ?_⟩, fun h => absurd h (by simp)⟩
    refine ld_cellf (rd_chunk 1 rfl pks_rd) (by kernel_rfl) (r := oB) false rfl ?_
    refine q_none ⟨?_, rfl⟩
    show Vo _ = Vo true
    congr 1
    simp only [btx_toList]
    have : (ByteArray.mk #[148, 4, 0, 0]).toList = [148, 4, 0, 0] := btx_toList _
    rw [this]
    rfl
  · simp at hls
theorem many_ok {W : World} {g : Hp} (hg : In W g) (hlaid : Laid g) (n mtu : Int) : Ok Tryd.prog 4 #[Vi n, Vi mtu] W Hp.emp fun r h' _ => r = Vo true ∧ h' = Hp.emp := by
  have hb : Base ⟨W, Hp.emp⟩ g := ⟨hg, Disj.emp_left _⟩
  refine exec_ok' (P := Tryd.prog) b4 (fn := Tryd.f4) (by kernel_rfl) (args := [.raw (Vi n), .raw (Vi mtu)]) (cs := [.none, .none]) (vs := [Vi n, Vi mtu]) rfl (by kernel_rfl) (In.emp W) (satL_none (satL_none rfl)) (R := fun r h' => r = Vo true ∧ h' = Hp.emp) ?_
  rw [vb4]
  refine ⟨fun _ => q_none ⟨rfl, rfl⟩, fun h => ?_⟩
  simp only [Bool.or_eq_false_iff, decide_eq_false_iff_not] at h
  obtain ⟨⟨⟨hn0, hn⟩, hm⟩, hm2⟩ := h
  obtain ⟨k, rfl⟩ : ∃ k : Nat, n = (k : Int) := ⟨n.toNat, by omega⟩
  refine v_makeS 0 el22 rfl (by omega) (by omega) (by omega) (by omega) hb fun b => ?_
  have hrow : ∀ h, Row 5 1 (some ⟨b, 0, none⟩, (k : Int).toNat, (k : Int).toNat) ((madeCells (Vb 0).cells ((k : Int).toNat * 1)).toList.take ((k : Int).toNat * 1)) h → Rd h (some ⟨b, 0, none⟩) (bts (List.replicate k 0)) := fun h r => by
    have := r.rd
    rw [made_bts, Int.toNat_natCast] at this
    exact this
  obtain ⟨room, hroom⟩ : ∃ room : Nat, mtu - 20 = (room : Int) := ⟨(mtu - 20).toNat, by omega⟩
  obtain ⟨l, hl1, hl2, hl3⟩ := many_split k mtu room (by omega) (by omega) hroom
  have hlenr : (List.replicate k (0 : UInt8)).length = k := List.length_replicate
  refine call_make 1 (by kernel_rfl) rfl hb fun W1 h1 i1 s1 ig dg => ?_
  have rd1 := rd_chunk 0 rfl hrow h1 s1
  have hsp := Split_ok (g := h1.un g) (i1.un ig) (hlaid.mono (sub_right dg)) (manyX k) (some ⟨b, 0, none⟩) k ⟨rd1.left, (fun e => by cases e), by show (List.replicate k (0 : UInt8)).length ≤ k; omega⟩ mtu (by show (List.replicate k (0 : UInt8)).length ≤ 1000000; omega)
  have e1 : ((manyX k).pk (some ⟨b, 0, none⟩) k).val = .agg #[Vi 0, Vi 0, Vi 0, Vi 0, Vo false, Vo false, Vi 0, Vt (btx [97, 98, 99, 100]), Vt (btx [101, 102, 103, 104]), Vt (btx []), Vs (some ⟨b, 0, none⟩) k k] := by
    show Value.agg #[_, _, _, _, _, _, _, _, _, _, Vs _ (List.replicate k (0 : UInt8)).length _] = _
    rw [hlenr]; rfl
  rw [e1] at hsp
  refine Ok.mono hsp fun r h' W' _ _ hr => ?_
  unfold SplitR at hr
  rw [hl1] at hr
  rcases hr with ⟨h0, _⟩ | ⟨_, v, ls, hr, hls, hvn, hpk⟩
  · exact absurd rfl h0
  subst hr
  simp only at hls
  obtain ⟨va, vn, vc⟩ := v
  simp only at hvn
  subst hvn
  have hlen : ls.length = l.length := by rw [← hls, List.length_map]
  have hle : l.length ≤ 5001 := by
    rw [hl2]
    have : ∀ f n, n < f → wantF room (room / 8 * 8) f n ≤ n + 1 := by
      intro f
      induction f with
      | zero => intro n h; omega
      | succ f ih =>
        intro n h
        simp only [wantF]
        split
        · omega
        · have := ih (n - room / 8 * 8) (by omega); omega
    have := this (k + 1) k (by omega)
    omega
  refine ⟨((va, ls.length, vc), 0, pU), Pks (va, ls.length, vc) ls, rfl, hpk, fun h => absurd h (by simp), fun _ x hx x1 hx1 => ?_⟩
  have hx' : x = (room : Int) := by rw [hx, wr_id (by omega) (by omega)]; exact hroom
  subst hx'
  have hx1' : x1 = ((room / 8 * 8 : Nat) : Int) := by
    rw [hx1, Int.tdiv_eq_ediv_of_nonneg (by omega), wr_id (n := (room : Int) / 8) (by omega) (by omega), wr_id (by omega) (by omega)]
    omega
  clear hx hx1
  subst hx1'
  refine ⟨fun y _ => ∃ f left : Nat, y.2.1 = (left : Int) ∧ left < f ∧ left ≤ k ∧ y.1 + (wantF room (room / 8 * 8) f left : Int) = 1 + (l.length : Int) ∧ 1 ≤ y.1 ∧ y.1 ≤ 6000, fun y _ => y.2.1.toNat, ⟨pU, Ent.refl _, k + 1, k, rfl, by omega, by omega, by rw [hl2], by simp only; omega, by simp only; omega⟩, ?_⟩
  rintro ⟨want, left', _⟩ _ ⟨f, left, h1, h2, hk, h3, h4, h5⟩
  simp only at h1 h3 h4 h5
  subst h1
  refine ⟨fun h y1 hy1 y2 hy2 => ?_, fun h => ?_⟩
  · have hgt : room < left := by have := of_decide_eq_true h; simp only at this; omega
    simp only at hy1 hy2
    rw [wr_id (by omega) (by omega)] at hy1 hy2
    subst hy1 hy2
    cases f with
    | zero => omega
    | succ f =>
      simp only [wantF] at h3
      rw [if_neg (by omega)] at h3
      refine ⟨pU, Ent.refl _, ⟨f, left - room / 8 * 8, by simp only; omega, by omega, by omega, by simp only; omega, by simp only; omega, ?_⟩, by simp only; omega⟩
      simp only
      omega
  · have hgt : left ≤ room := by have := of_decide_eq_false h; simp only at this; omega
    have hw : want = (l.length : Int) := by
      cases f with
      | zero => omega
      | succ f =>
        simp only [wantF] at h3
        rw [if_pos hgt] at h3
        omega
    subst hw
    refine ⟨fun y _ => ∃ i : Nat, y.1 = (i : Int) ∧ i ≤ l.length, fun y _ => l.length - y.1.toNat, ⟨pU, Ent.refl _, 0, rfl, by omega⟩, ?_⟩
    rintro ⟨i', _⟩ _ ⟨i, hi, hil⟩
    simp only at hi
    subst hi
    have hw1 : wr ((i : Int) + 1) = ((i + 1 : Nat) : Int) := by rw [wr_id (by omega) (by omega)]; omega
    simp only [hw1]
    refine ⟨fun h => ?_, fun h => ?_⟩
    · have hlt : i + 1 < l.length := by have := of_decide_eq_true h; omega
      have hA : va ≠ none := pks_some hpk (by simp only; omega)
      refine ⟨⟨hA, by omega, by omega⟩, ?_⟩
      rw [Int.toNat_natCast]
      have hd : (ls[i]'(by omega)).1.data.length = room / 8 * 8 := by
        have := hl3 i hlt
        have e : l[i] = (ls[i]'(by omega)).1 := by simp [← hls]
        rw [e] at this; exact this
      refine ld_cellf (rd_chunk 1 rfl pks_rd) (by kernel_rfl) (r := oS) ((ls[i]'(by omega)).2.1, (ls[i]'(by omega)).1.data.length, (ls[i]'(by omega)).2.2) ?_ ?_
      · rw [flat_cell It.cells 11 It.len ls i 10 (by omega) (by omega)]
        rfl
      · simp only [hd]
        refine ⟨fun h => by simp at h, fun _ y hy => ?_⟩
        subst hy
        exact ⟨pU, Ent.refl _, ⟨i + 1, rfl, by omega⟩, by show l.length - (((i + 1 : Nat) : Int)).toNat < l.length - ((i : Int)).toNat; omega⟩
    · refine call_read (by kernel_rfl) hb fun W2 h2 i2 s2 ig2 dg2 => ?_
      refine Ok.mono (awake_ok ig2 hlaid) fun r h' W' _ _ ⟨hr, _⟩ => ?_
      subst hr
      refine ⟨true, rfl, q_none ⟨?_, rfl⟩⟩
      show Vo _ = Vo true
      rw [hlen]
      simp
end Go.Proofs.SplitVc
