/- pieces, Split. -/
import Derived.Test.YtocloghnfnkchaaDoorSpE
open Go Go.SL Go.Proofs
set_option maxRecDepth 100000
set_option linter.unusedVariables false
namespace Go.Proofs.SplitVc
/-- A packet's content. -/
structure Pd where
  tos : Int
  id : Int
  ttl : Int
  proto : Int
  df : Bool
  mf : Bool
  off : Int
  src : ByteArray
  dst : ByteArray
  opts : ByteArray
  data : List UInt8
abbrev Pd.pk (x : Pd) (A : Option Addr) (c : Nat) : Pk := ⟨x.tos, x.id, x.ttl, x.proto, x.df, x.mf, x.off, x.src, x.dst, x.opts, A, x.data.length, c⟩
abbrev It := Pd × Option Addr × Nat
abbrev It.cells (x : It) : List Value := (x.1.pk x.2.1 x.2.2).cells
theorem It.len (x : It) : (It.cells x).length = 11 := rfl
/-- Its bytes can be read. -/
def It.ok (x : It) (h : Hp) : Prop := Rd h x.2.1 (bts x.1.data) ∧ (x.2.1 = none → x.1.data = []) ∧ x.1.data.length ≤ x.2.2
def Dat (l : List It) (h : Hp) : Prop := ∀ x ∈ l, It.ok x h
def Pks (v : Option Addr × Nat × Nat) (l : List It) : Hp → Prop := Sep (Row 24 11 v (l.flatMap It.cells)) (Dat l)
theorem It.ok.mono {x : It} {g h : Hp} (o : It.ok x g) (s : Sub g h) : It.ok x h := ⟨o.1.mono s, o.2⟩
theorem Dat.mono {l : List It} {g h : Hp} (o : Dat l g) (s : Sub g h) : Dat l h := fun x hx => (o x hx).mono s
theorem Dat.snoc {l : List It} {x : It} {h : Hp} (o : Dat l h) (ox : It.ok x h) : Dat (l ++ [x]) h := fun y hy => by
  rcases List.mem_append.1 hy with hy | hy
  · exact o y hy
  · rw [List.mem_singleton.1 hy]; exact ox
/-- The pieces of a packet; none: it is too long. -/
def piecesF : Nat → Pd → Int → ByteArray → Option (List Pd)
  | 0, _, _, _ => none
  | f + 1, x, mtu, later =>
    if x.off > 65528 then none
    else if (x.data.length : Int) ≤ mtu - 20 - (x.opts.size : Int) then some [x]
    else (piecesF f { x with off := x.off + (mtu - 20 - (x.opts.size : Int)) / 8 * 8, opts := later, data := x.data.drop ((mtu - 20 - (x.opts.size : Int)) / 8 * 8).toNat } mtu later).map
      ({ x with mf := true, data := x.data.take ((mtu - 20 - (x.opts.size : Int)) / 8 * 8).toNat } :: ·)
theorem el26 : elemP Tryd.prog 26 = some (24, 11, 120, .agg #[Vi 0, Vi 0, Vi 0, Vi 0, Vo false, Vo false, Vi 0, Vt ⟨#[]⟩, Vt ⟨#[]⟩, Vt ⟨#[]⟩, Vs none 0 0]) := by kernel_rfl
theorem slc26 : Tryd.prog.underlying 26 = some (.slice 24) := by kernel_rfl
theorem pk_one (x : Pd) (A : Option Addr) (c : Nat) : ∀ u ∈ (x.pk A c).cells, u.oneCell' = true := by
  intro u hu
  simp only [List.mem_cons, List.not_mem_nil, or_false] at hu
  rcases hu with rfl | rfl | rfl | rfl | rfl | rfl | rfl | rfl | rfl | rfl | rfl <;> rfl
theorem subA_zero (A : Option Addr) (c s : Nat) : subA A c 0 s = A := by
  unfold subA
  split
  · rfl
  · cases A with
    | none => rfl
    | some a => simp [Addr.add]
/-- What pieces answers. -/
def PiecesR (acc : List It) (o : Option (List Pd)) (r : Value) (h : Hp) : Prop :=
  match o with
  | none => r = .tuple #[Vs none 0 0, Vi 2] ∧ h = Hp.emp
  | some l => ∃ v ls, r = .tuple #[Vs v.1 v.2.1 v.2.2, Vi 0] ∧ ls.map (·.1) = l ∧ v.2.1 = (acc ++ ls).length ∧ Pks v (acc ++ ls) h
theorem pieces_ok : ∀ (f : Nat) {W : World} {g h : Hp} (hg : In W g) (hh : In W h) (dg : Disj h g) (x : Pd) (A : Option Addr) (c : Nat) (mtu : Int) (later : ByteArray) (v : Option Addr × Nat × Nat) (acc : List It),
    x.data.length < f → It.ok (x, A, c) g → Pks v acc h → v.2.1 = acc.length → 68 ≤ mtu → mtu ≤ 100000 → x.opts.size ≤ 40 → later.size ≤ 40 → 0 ≤ x.off → acc.length + x.data.length ≤ 200000 →
    Ok Tryd.prog 14 #[(x.pk A c).val, Vi mtu, Vt later, Vs v.1 v.2.1 v.2.2] W h fun r h' _ => PiecesR acc (piecesF f x mtu later) r h' := by
  intro f
  induction f with
  | zero => intros; omega
  | succ f ih =>
    intro W g h hg hh dg x A c mtu later v acc hf hx hv hvl hm1 hm2 ho hla hoff hsz
    obtain ⟨hrd, hnil, hc⟩ := hx
    simp only at hrd hnil hc
    obtain ⟨va, vn, vc⟩ := v
    simp only at hvl
    subst hvl
    have hb : Base ⟨W, h⟩ g := ⟨hg, dg⟩
    refine exec_ok' (P := Tryd.prog) b14 (fn := Tryd.f14) (by kernel_rfl) (args := [.raw (x.pk A c).val, .raw (Vi mtu), .raw (Vt later), .raw (Vs va acc.length vc)])
      (cs := [.none, .none, .none, .none, .none, .own (Pks (va, acc.length, vc) acc), .none]) (vs := [(x.pk A c).val, Vi mtu, Vt later, Vs va acc.length vc]) rfl (by kernel_rfl) hh
      (satL_none <| satL_none <| satL_none <| satL_none <| satL_none <| ?_)
      (R := PiecesR acc (piecesF (f + 1) x mtu later)) ?_
    · exact ⟨h, Hp.emp, Disj.emp_right _, (Hp.un_emp h).symm, hv, satL_none rfl⟩
    rw [vb14]
    intro b
    simp only
    have hroom : wr (wr (mtu - 20) - (x.opts.size : Int)) = mtu - 20 - (x.opts.size : Int) := by
      rw [wr_id (n := mtu - 20) (by omega) (by omega), wr_id (by omega) (by omega)]
    rw [hroom]
    refine ⟨fun h1 => ?_, fun h1 room hr => ⟨fun h2 => ?_, fun h2 n hn => ?_⟩⟩
    · refine q_none ?_
      unfold piecesF
      rw [if_pos (of_decide_eq_true h1)]
      exact ⟨rfl, rfl⟩
    · subst hr
      refine call_make 6 (by kernel_rfl) rfl hb fun W1 h1' i1 s1 ig dg1 => ?_
      refine Ok.mono (Clone_ok ig hrd hnil (by omega)) fun r h' W' _ _ ⟨A', c', hr, hnil', hrow⟩ => ?_
      subst hr
      refine ⟨(A', x.data.length, c'), Row 5 1 (A', x.data.length, c') (bts x.data), rfl, hrow, ?_⟩
      intro b1
      refine v_append1 5 el26 rfl (fun h o => o) hb (src_chunk (rd_blkc 1 rfl) rfl (pk_one x A' c') slc26) (by unfold maxLen; omega) (by omega) fun A2 c2 => ?_
      refine q_two 5 6 rfl rfl (by decide) fun q1 q2 d s1 s2 => ?_
      unfold piecesF
      rw [if_neg (of_decide_eq_false h1), if_pos (of_decide_eq_true h2)]
      obtain ⟨k1, k2, dk, rfl, hrow1, hdat⟩ := s1
      have s2 : Row 5 1 (A', x.data.length, c') (bts x.data) q2 := s2
      refine ⟨(A2, acc.length + 1, c2), [(x, A', c')], rfl, rfl, by simp, k1, k2.un q2, disj_un_right.2 ⟨dk, (disj_un_left.1 d).1⟩, Hp.un_assoc _ _ _, by simpa using hrow1, ?_⟩
      refine Dat.snoc (hdat.mono (sub_left _ _)) ⟨s2.rd.right (disj_un_left.1 d).2, hnil', ?_⟩
      exact s2.2.1
    · subst hr
      have hgt : ¬ ((x.data.length : Int) ≤ mtu - 20 - (x.opts.size : Int)) := of_decide_eq_false h2
      have hdiv : Int.tdiv (mtu - 20 - (x.opts.size : Int)) 8 = (mtu - 20 - (x.opts.size : Int)) / 8 := Int.tdiv_eq_ediv_of_nonneg (by omega)
      have hn' : n = (mtu - 20 - (x.opts.size : Int)) / 8 * 8 := by
        rw [hn, hdiv, wr_id (n := (mtu - 20 - (x.opts.size : Int)) / 8) (by omega) (by omega), wr_id (by omega) (by omega)]
      obtain ⟨m, hm⟩ : ∃ m : Nat, n = (m : Int) := ⟨n.toNat, by omega⟩
      have hm8 : 8 ≤ m := by omega
      have hmlt : m < x.data.length := by omega
      subst hm
      intro b1 b2
      have hw : wr (x.off + (m : Int)) = x.off + (m : Int) := wr_id (by have := of_decide_eq_false h1; omega) (by have := of_decide_eq_false h1; omega)
      rw [hw, subA_zero, Int.toNat_natCast]
      refine ⟨⟨by omega, by omega⟩, ?_⟩
      have hrd1 : Rd g A (bts (x.data.take m)) := by rw [← bts_take]; exact hrd.take m
      have hl1 : (x.data.take m).length = m := by simp; omega
      refine call_make 6 (by kernel_rfl) rfl hb fun W1 h1' i1 s1 ig dg1 => ?_
      have hcl := Clone_ok (c := c) ig hrd1 (fun e => by rw [hnil e, List.take_nil]) (by omega)
      rw [hl1] at hcl
      refine Ok.mono hcl fun r h' W' _ _ ⟨A', c', hr, hnil', hrow⟩ => ?_
      subst hr
      refine ⟨(A', m, c'), Row 5 1 (A', m, c') (bts (x.data.take m)), rfl, hrow, ⟨by omega, by omega⟩, ?_⟩
      intro b3
      have hfst : [Vi x.tos, Vi x.id, Vi x.ttl, Vi x.proto, Vo x.df, Vo true, Vi x.off, Vt x.src, Vt x.dst, Vt x.opts, Vs A' m c'] = It.cells (({ x with mf := true, data := x.data.take m } : Pd), A', c') := by
        simp only [It.cells, Pk.cells, hl1]
      refine v_append1 5 el26 rfl (fun h o => o) hb (src_chunk (rd_blkc 4 rfl) rfl (by rw [hfst]; exact pk_one _ A' c') slc26) (by unfold maxLen; omega) (by omega) fun A2 c2 => ?_
      have hrest : x.data.length - m = (x.data.drop m).length := by simp
      rw [hrest]
      refine call_own2 5 6 (by kernel_rfl) rfl rfl (by decide) hb fun W2 g1 g2 g3 j1 j2 j3 o1 o2 jg d12 d13 d23 dg1' dg2' dg3' => ?_
      have o2 : Row 5 1 (A', m, c') (bts (x.data.take m)) g2 := o2
      obtain ⟨k1, k2, dk, rfl, hrow1, hdat⟩ := o1
      have hpks : Pks (A2, acc.length + 1, c2) (acc ++ [(({ x with mf := true, data := x.data.take m } : Pd), A', c')]) ((k1.un k2).un g2) := by
        refine ⟨k1, k2.un g2, disj_un_right.2 ⟨dk, (disj_un_left.1 d12).1⟩, Hp.un_assoc _ _ _, ?_, ?_⟩
        · rw [List.flatMap_append, List.flatMap_cons, List.flatMap_nil, List.append_nil, ← hfst]
          exact hrow1
        · exact Dat.snoc (hdat.mono (sub_left _ _)) ⟨o2.rd.right (disj_un_left.1 d12).2, hnil', by simp only [hl1]; exact o2.2.1⟩
      have hok : It.ok (({ x with off := x.off + (m : Int), opts := later, data := x.data.drop m } : Pd), subA A c m 1, c - m) g := by
        refine ⟨?_, fun e => ?_, by simp; omega⟩
        · have := hrd.subA (n := x.data.length) (size := 1) (c := c) (by rw [bts_len]; omega) hc m (by omega)
          rw [Nat.mul_one, bts_drop] at this
          exact this
        · simp only [subA] at e
          rw [if_neg (by omega)] at e
          cases hA : A with
          | none => have := hnil hA; rw [this] at hmlt; simp at hmlt
          | some a => rw [hA] at e; cases e
      have := ih jg (j1.un j2) (disj_un_left.2 ⟨dg1', dg2'⟩) ({ x with off := x.off + (m : Int), opts := later, data := x.data.drop m } : Pd) (subA A c m 1) (c - m) mtu later (A2, acc.length + 1, c2) _ (by simp; omega) hok hpks (by simp) hm1 hm2 hla hla (by simp only; omega) (by simp; omega)
      refine Ok.mono this fun r h' W' _ _ hr => ?_
      have hun : piecesF (f + 1) x mtu later = (piecesF f ({ x with off := x.off + (m : Int), opts := later, data := x.data.drop m } : Pd) mtu later).map (({ x with mf := true, data := x.data.take m } : Pd) :: ·) := by
        conv => lhs; unfold piecesF
        rw [if_neg (of_decide_eq_false h1), if_neg hgt, ← hn', Int.toNat_natCast]
      rw [hun]
      cases hp : piecesF f ({ x with off := x.off + (m : Int), opts := later, data := x.data.drop m } : Pd) mtu later with
      | none =>
        rw [hp] at hr
        obtain ⟨rfl, rfl⟩ := hr
        exact ⟨((none, 0, 0), 2, pU), Emp, rfl, rfl, q_none ⟨rfl, rfl⟩⟩
      | some l =>
        rw [hp] at hr
        obtain ⟨v, ls, rfl, hls, hvn, hpk⟩ := hr
        refine ⟨(v, 0, pU), Pks v (acc ++ [_] ++ ls), rfl, hpk, q_own 5 rfl fun h' hp' => ⟨v, (({ x with mf := true, data := x.data.take m } : Pd), A', c') :: ls, rfl, by simp [hls], by rw [hvn]; simp, ?_⟩⟩
        have hp' : Pks v (acc ++ [(({ x with mf := true, data := x.data.take m } : Pd), A', c')] ++ ls) h' := hp'
        rw [List.append_assoc] at hp'
        exact hp'
end Go.Proofs.SplitVc
