/- few, Same, SplitAgain. -/
import Derived.Test.YtocloghnfnkchaaDoorSpH
import Derived.Test.YtocloghnfnkchaaDoorPlC
import Derived.Test.YtocloghnfnkchaaDoorVcC
open Go Go.SL Go.Proofs
set_option maxRecDepth 100000
set_option linter.unusedVariables false
namespace Go.Proofs.SplitVc
def fewB (x : Pd) : Bool := decide (wr (wr ((x.src.size : Int) + (x.dst.size : Int)) + (x.opts.size : Int)) ≤ 300) && decide ((x.data.length : Int) ≤ 3000)
theorem few_ok {W : World} (x : Pd) (A : Option Addr) (c : Nat) : Ok Tryd.prog 6 #[(x.pk A c).val] W Hp.emp fun r h' _ => r = Vo (fewB x) ∧ h' = Hp.emp := by
  refine exec_ok' (P := Tryd.prog) d6 (fn := Tryd.f6) (by kernel_rfl) (args := [.raw (x.pk A c).val]) (cs := [.none]) (vs := [(x.pk A c).val]) rfl (by kernel_rfl) (In.emp W) (satL_none rfl) (R := fun r h' => r = Vo (fewB x) ∧ h' = Hp.emp) ?_
  rw [vd6]
  intro b
  exact q_none ⟨rfl, rfl⟩
/-- The same packet? -/
def sameB (x y : Pd) : Bool := x.tos == y.tos && x.id == y.id && x.ttl == y.ttl && x.proto == y.proto && x.df == y.df && x.mf == y.mf && x.off == y.off && x.src.toList == y.src.toList && x.dst.toList == y.dst.toList && x.opts.toList == y.opts.toList
theorem sameB_refl (x : Pd) : sameB x x = true := by simp [sameB]
theorem Same_ok {W : World} {g : Hp} (hg : In W g) (x y : Pd) (A B : Option Addr) (c d : Nat) (hx : Rd g A (bts x.data)) (hy : Rd g B (bts y.data)) :
    Ok Tryd.prog 9 #[(x.pk A c).val, (y.pk B d).val] W Hp.emp fun r h' _ => r = Vo (sameB x y && x.data == y.data) ∧ h' = Hp.emp := by
  have hb : Base ⟨W, Hp.emp⟩ g := ⟨hg, Disj.emp_left _⟩
  refine exec_ok' (P := Tryd.prog) d9 (fn := Tryd.f9) (by kernel_rfl) (args := [.raw (x.pk A c).val, .raw (y.pk B d).val]) (cs := [.none, .none]) (vs := [(x.pk A c).val, (y.pk B d).val]) rfl (by kernel_rfl) (In.emp W) (satL_none (satL_none rfl))
    (R := fun r h' => r = Vo (sameB x y && x.data == y.data) ∧ h' = Hp.emp) ?_
  rw [vd9]
  intro b b1
  refine ⟨fun h => ?_, fun h => ?_⟩
  · have h : sameB x y = true := h
    refine v_strB hb hx slc22 (by kernel_rfl) (by kernel_rfl) rfl ?_
    refine v_strB hb hy slc22 (by kernel_rfl) (by kernel_rfl) rfl ?_
    refine q_none ⟨?_, rfl⟩
    rw [h, btx_toList, btx_toList, Bool.true_and]
    rfl
  · have h : sameB x y = false := h
    refine q_none ⟨?_, rfl⟩
    rw [h]; rfl
/-- A packet's cells, as they are loaded. -/
abbrev Pd.tup (x : Pd) (A : Option Addr) (c : Nat) : TupS [.int .i64, .int .i64, .int .i64, .int .i64, .bool, .bool, .int .i64, .str, .str, .str, .slc] := (x.tos, x.id, x.ttl, x.proto, x.df, x.mf, x.off, x.src, x.dst, x.opts, (A, x.data.length, c), pU)
theorem agg24 : isAggP Tryd.prog 24 = true := by kernel_rfl
theorem size24 : sizeP Tryd.prog 24 = 11 := by kernel_rfl
theorem ld_pk {c : Ctx} {cs : List Ch} {A : Option Addr} {ls : List It} (R : ∀ h, satL cs h → Rd h A (ls.flatMap It.cells)) {i : Nat} (hi : i < ls.length)
    {kk : (OS.one (TS.agg [Sc.int IntKind.i64, Sc.int IntKind.i64, Sc.int IntKind.i64, Sc.int IntKind.i64, Sc.bool, Sc.bool, Sc.int IntKind.i64, Sc.str, Sc.str, Sc.str, Sc.slc])).ty → Prop} (hk : kk (Pd.tup ls[i].1 ls[i].2.1 ls[i].2.2)) :
    (hops Tryd.prog c).ld (OS.one (TS.agg [Sc.int IntKind.i64, Sc.int IntKind.i64, Sc.int IntKind.i64, Sc.int IntKind.i64, Sc.bool, Sc.bool, Sc.int IntKind.i64, Sc.str, Sc.str, Sc.str, Sc.slc])) (Instr.loadAt 24 (.pointer (some ((oget A).add (i * 11))))) cs kk := by
  have hlen := flat_len It.cells 11 It.len ls
  refine ld_at R (by kernel_rfl) _ (by rw [hlen]; omega) (by rw [hlen, size24]; omega) ?_ hk
  unfold partL
  rw [agg24, size24]
  simp only
  rw [flat_get It.cells 11 It.len ls i hi]
  rfl
theorem pks_dat {v : Option Addr × Nat × Nat} {l : List It} {h : Hp} (p : Pks v l h) : Dat l h := by
  obtain ⟨h1, h2, d, rfl, _, hd⟩ := p
  exact hd.mono (sub_right d)
/-- What Split hands back, as the law takes it. -/
theorem splitR_cases {x : Pd} {mtu : Int} {r : Value} {h : Hp} (s : SplitR x mtu r h) : ∃ v ls, r = .tuple #[Vs v.1 v.2.1 v.2.2, Vi (splitF x mtu).2] ∧ v.2.1 = ls.length ∧ Pks v ls h ∧ ls.map (·.1) = (splitF x mtu).1 := by
  rcases s with ⟨hne, rfl, rfl⟩ | ⟨h0, v, ls, rfl, hls, hvn, hp⟩
  · refine ⟨(none, 0, 0), [], rfl, rfl, ⟨Hp.emp, Hp.emp, Disj.emp_left _, rfl, Row.nil _ _ _, fun y hy => by cases hy⟩, ?_⟩
    unfold splitF at hne ⊢
    split
    · rfl
    · split
      · rfl
      · split
        · rename_i h1 h2 h3; rw [if_neg h1, if_neg h2, if_pos h3] at hne; exact absurd rfl hne
        · split
          · rfl
          · split
            · rfl
            · rename_i h1 h2 h3 h4 h5
              rw [if_neg h1, if_neg h2, if_neg h3, if_neg h4, if_neg h5] at hne
              cases hp : piecesF (x.data.length + 1) x mtu (btx (laterF x.opts.data.toList).1) with
              | none => rfl
              | some l => rw [hp] at hne; exact absurd rfl hne
  · exact ⟨v, ls, by rw [h0], hvn, hp, hls⟩
theorem again_ok {W : World} {g : Hp} (hg : In W g) (hlaid : Laid g) (x : Pd) (A : Option Addr) (c : Nat) (hx : It.ok (x, A, c) g) (mtu more : Int) (hm : -9223372036854775808 ≤ mtu) :
    Ok Tryd.prog 3 #[(x.pk A c).val, Vi mtu, Vi more] W Hp.emp fun r h' _ => r = Vo true ∧ h' = Hp.emp := by
  have hb : Base ⟨W, Hp.emp⟩ g := ⟨hg, Disj.emp_left _⟩
  refine exec_ok' (P := Tryd.prog) d3 (fn := Tryd.f3) (by kernel_rfl) (args := [.raw (x.pk A c).val, .raw (Vi mtu), .raw (Vi more)]) (cs := [.none, .none, .none, .none]) (vs := [(x.pk A c).val, Vi mtu, Vi more]) rfl (by kernel_rfl) (In.emp W)
    (satL_none (satL_none (satL_none (satL_none rfl)))) (R := fun r h' => r = Vo true ∧ h' = Hp.emp) ?_
  rw [vd3]
  intro b
  refine call_read (by kernel_rfl) hb fun W1 h1 i1 s1 ig dg => ?_
  refine Ok.mono (few_ok x A c) fun r h' W' _ _ ⟨hr, _⟩ => ?_
  subst hr
  refine ⟨fewB x, rfl, fun h => q_none ⟨rfl, rfl⟩, fun h => ?_⟩
  simp only [Bool.or_eq_false_iff, decide_eq_false_iff_not, Bool.not_eq_false'] at h
  obtain ⟨⟨⟨hf, hm0⟩, hm1⟩, hm2⟩ := h
  have hd3 : x.data.length ≤ 3000 := by
    simp only [fewB, Bool.and_eq_true, decide_eq_true_eq] at hf
    omega
  have hw : wr (mtu + more) = mtu + more := wr_id (by omega) (by omega)
  rw [hw]
  refine call_make 1 (by kernel_rfl) rfl hb fun W1 h1 i1 s1 ig dg => ?_
  refine Ok.mono (Split_ok ig hlaid x A c hx mtu (by omega)) fun r h' W' _ _ hr => ?_
  obtain ⟨⟨va, vn, vc⟩, ls, rfl, hvn, hpk, hls⟩ := splitR_cases hr
  simp only at hvn
  subst hvn
  have hva : 0 < ls.length → va ≠ none := fun h => pks_some hpk h
  refine ⟨((va, ls.length, vc), (splitF x mtu).2, pU), Pks (va, ls.length, vc) ls, rfl, hpk, ?_⟩
  clear hpk hr
  refine call_make 2 (by kernel_rfl) rfl hb fun W1 h1 i1 s1 ig dg => ?_
  refine Ok.mono (Split_ok ig hlaid x A c hx (mtu + more) (by omega)) fun r h' W' _ _ hr => ?_
  obtain ⟨⟨wa, wn, wc⟩, ms, rfl, hwn, hpm, hms⟩ := splitR_cases hr
  simp only at hwn
  subst hwn
  refine ⟨((wa, ms.length, wc), (splitF x (mtu + more)).2, pU), Pks (wa, ms.length, wc) ms, rfl, hpm, ?_⟩
  clear hpm hr
  have aw : ∀ {cs : List Ch} {k : oB.ty → PUnit → Prop}, k true pU → (hops Tryd.prog ⟨W, Hp.emp⟩).call oB 8 [] cs [] k := fun hk =>
    call_read (by kernel_rfl) hb fun W2 h2 i2 s2 ig2 dg2 => Ok.mono (awake_ok ig2 hlaid) fun r h' W' _ _ ⟨hr, _⟩ => ⟨true, hr, hk⟩
  refine ⟨fun h => aw (q_none ⟨?_, rfl⟩), fun h => ?_⟩
  · have hne : (splitF x mtu).2 ≠ 0 := by simpa using h
    show Vo _ = Vo true
    congr 1
    by_cases h68 : mtu < 68
    · simp [h68]
    · rcases split_err (m1 := mtu) (m2 := mtu + more) (by omega) hne (by omega) with e | e
      · simp [e]
      · simp [e]
  have h0 : (splitF x mtu).2 = 0 := by simpa using h
  obtain ⟨hne, hgood⟩ := split_good (by omega) h0
  obtain ⟨hm1', hm2'⟩ := split_more hd3 (m2 := mtu + more) (by omega) h0
  have hlen : ls.length ≤ 3001 := by
    rcases (split_cases h0).2.2 with ⟨_, e⟩ | ⟨_, _, _, hp⟩
    · have : ls.length = (splitF x mtu).1.length := by rw [← hls, List.length_map]
      rw [this, e]; simp
    · have hcount : ∀ (f : Nat) (y : Pd) (l : List Pd), piecesF f y mtu (btx (laterF x.opts.data.toList).1) = some l → l.length ≤ f := by
        intro f
        induction f with
        | zero => intro y l h; simp [piecesF] at h
        | succ f ih =>
          intro y l h
          unfold piecesF at h
          split at h
          · cases h
          · split at h
            · cases h; simp
            · obtain ⟨r, hr, e⟩ := Option.map_eq_some_iff.1 h
              have := ih _ _ hr
              rw [← e]; simp; exact this
      have := hcount _ _ _ hp
      have e : ls.length = (splitF x mtu).1.length := by rw [← hls, List.length_map]
      omega
  refine ⟨fun y _ => ∃ i : Nat, y.1 = (i : Int) ∧ i ≤ ls.length, fun y _ => ls.length - y.1.toNat, ⟨(pU, pU), ent_same (ent_same (ent_same (ent_gone ent_nil))), 0, rfl, by omega⟩, ?_⟩
  rintro ⟨i', _⟩ _ ⟨i, hi, hil⟩
  simp only at hi
  subst hi
  refine ⟨fun h => ?_, fun h => ?_⟩
  · have hlt : i < ls.length := by have := of_decide_eq_true h; simp only at this; omega
    have hmem : ls[i].1 ∈ (splitF x mtu).1 := by rw [← hls]; exact List.mem_map_of_mem (List.getElem_mem hlt)
    obtain ⟨hs1, hs2, hs3⟩ := hgood _ hmem
    refine ⟨⟨hva (by omega), by omega, by simp only; omega⟩, ?_⟩
    rw [Int.toNat_natCast]
    refine ld_pk (rd_chunk 1 rfl pks_rd) hlt ?_
    refine call_make 3 (by kernel_rfl) rfl hb fun W2 h2 i2 s2 ig2 dg2 => ?_
    obtain ⟨k1, p1, hk1⟩ := satL_sub s2 (i := 1) rfl
    have hit : It.ok ls[i] (h2.un g) := ((pks_dat p1) _ (List.getElem_mem hlt)).mono (Sub.trans hk1 (sub_left _ _))
    refine Ok.mono (Split_ok (i2.un ig2) (hlaid.mono (sub_right dg2)) ls[i].1 ls[i].2.1 ls[i].2.2 hit mtu (by omega)) fun r h' W' _ _ hr => ?_
    obtain ⟨⟨na, nn, nc⟩, ns, rfl, hnn, hpn, hns⟩ := splitR_cases hr
    simp only at hnn
    subst hnn
    rw [hs1] at hns ⊢
    rcases ns with _ | ⟨⟨y, B, d⟩, _ | ⟨z, r⟩⟩
    · simp at hns
    · simp only [List.map_cons, List.map_nil, List.cons.injEq, and_true] at hns
      subst hns
      refine ⟨((na, 1, nc), 0, pU), Pks (na, 1, nc) [(ls[i].1, B, d)], rfl, hpn, fun h => absurd h (by simp), fun _ => ?_⟩
      have hna : na ≠ none := pks_some hpn (by simp)
      refine ⟨⟨hna, by omega, by simp⟩, ?_⟩
      refine ld_pk (i := 0) (ls := [(ls[i].1, B, d)]) (rd_chunk 3 rfl pks_rd) (by simp) ?_
      refine ⟨⟨hva (by omega), by omega, by simp only; omega⟩, ?_⟩
      refine ld_pk (i := i) (ls := ls) (rd_chunk 1 rfl pks_rd) hlt ?_
      refine call_read (by kernel_rfl) hb fun W3 h3 i3 s3 ig3 dg3 => ?_
      obtain ⟨q1, r1, hq1⟩ := satL_sub s3 (i := 1) rfl
      obtain ⟨q3, r3, hq3⟩ := satL_sub s3 (i := 3) rfl
      have hx1 : It.ok ls[i] h3 := ((pks_dat r1) _ (List.getElem_mem hlt)).mono hq1
      have hx3 : It.ok (ls[i].1, B, d) h3 := ((pks_dat r3) _ (List.mem_singleton.2 rfl)).mono hq3
      refine Ok.mono (Same_ok i3 ls[i].1 ls[i].1 B ls[i].2.1 d ls[i].2.2 hx3.1 hx1.1) fun r h' W' _ _ ⟨hr, _⟩ => ?_
      subst hr
      refine ⟨_, rfl, fun h => ?_, fun _ z hz => ?_⟩
      · rw [sameB_refl] at h; simp at h
      · rw [wr_id (by omega) (by omega)] at hz
        refine ⟨(pU, pU), ent_same (ent_same (ent_same (ent_gone ent_nil))), ⟨i + 1, by simp only; omega, by omega⟩, ?_⟩
        simp only
        omega
    · simp at hns
  · refine ⟨fun h => aw (q_none ⟨?_, rfl⟩), fun h => aw (q_none ⟨?_, rfl⟩)⟩
    · have hne2 : (splitF x (mtu + more)).2 ≠ 0 := by simpa using h
      obtain ⟨e2, hoff⟩ := hm1' hne2
      show Vo _ = Vo true
      congr 1
      simp only [e2]
      simp [hoff]
    · have he2 : (splitF x (mtu + more)).2 = 0 := by simpa using h
      have hle := hm2' he2
      rw [← hls, ← hms, List.length_map, List.length_map] at hle
      show Vo _ = Vo true
      congr 1
      simp
      exact hle
end Go.Proofs.SplitVc
