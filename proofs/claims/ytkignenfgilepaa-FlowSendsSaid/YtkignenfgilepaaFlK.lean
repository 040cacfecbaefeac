/- Contracts: a receiver's Parts; rows of parts that are the same. -/
import Derived.Test.YtkignenfgilepaaFlJ
open Go Go.SL Go.Proofs
set_option maxRecDepth 100000
set_option linter.unusedVariables false
namespace Go.Proofs.FlowVc
theorem ldB_str {P : Program} {c : Ctx} {cs : List Ch} {g : Hp} (hb : Base c g) {A : Option Addr} {l : List UInt8} (R : Rd g A (bts l)) {src dst e : TypeId} (hs : P.underlying src = some (.slice e)) (he : P.underlying e = some (.int .u8)) (hd : P.underlying dst = some .string) {n cp : Nat} (hn : n = l.length)
    {kk : oT.ty → Prop} (hk : kk (btx l)) : (hops P c).ld oT (convert src dst (.slice A n cp)) cs kk :=
  ⟨btx l, fun W h hf n' => by subst hn; exact run_str R (hb.step n'.step).1 hs he hd cp, hk⟩
theorem u5 : Try.prog.underlying 5 = some (.int .u8) := by kernel_rfl
theorem u9 : Try.prog.underlying 9 = some .string := by kernel_rfl
theorem ldB_data {c : Ctx} {cs : List Ch} {g : Hp} (hb : Base c g) {A : Option Addr} {ps : List Pt} (R : Rd g A (ps.flatMap Pt.cells)) (i : Nat) (hi : i < ps.length) {kk : oS.ty → Prop}
    (hk : kk (ps[i].A, ps[i].d.length, ps[i].c)) : (hops Try.prog c).ld oS (Instr.loadAt 30 (.pointer (some ⟨((oget A).add (i * 2)).block, ((oget A).add (i * 2)).off + 1, none⟩))) cs kk := by
  refine ldB_cellf hb (k := i * 2) (f := 1) R one30 (ps[i].A, ps[i].d.length, ps[i].c) ?_ hk
  rw [flat_cell Pt.cells 2 cells2 ps i 1 hi (by omega)]
  rfl
theorem ldB_pat {c : Ctx} {cs : List Ch} {g : Hp} (hb : Base c g) {A : Option Addr} {ps : List Pt} (R : Rd g A (ps.flatMap Pt.cells)) (i : Nat) (hi : i < ps.length) {kk : oI.ty → Prop}
    (hk : kk ps[i].at_) : (hops Try.prog c).ld oI (Instr.loadAt 3 (.pointer (some (((oget A).add (i * 2)).add 0)))) cs kk := by
  refine ldB_cell hb (k := i * 2) (A := A) R one3 (ps[i].at_ : oI.ty) ?_ hk
  have := flat_cell Pt.cells 2 cells2 ps i 0 hi (by omega)
  rw [Nat.add_zero] at this
  rw [this]
  rfl
theorem Same_ok {W : World} {g : Hp} (hg : In W g) {A B : Option Addr} {c d : Nat} {ps qs : List Pt} (hp : PRp A ps g) (hq : PRp B qs g) (hn : ps.length ≤ 1000000) (hm : qs.length ≤ 1000000) :
    Ok Try.prog 23 #[Vs A ps.length c, Vs B qs.length d] W Hp.emp fun r h' _ => r = Vo (decide (ps.map Pt.er = qs.map Pt.er)) := by
  have hb : Base ⟨W, Hp.emp⟩ g := ⟨hg, Disj.emp_left _⟩
  refine exec_ok' (P := Try.prog) a23 (fn := Try.f23) (by kernel_rfl) (args := [.raw (Vs A ps.length c), .raw (Vs B qs.length d)]) (cs := []) (vs := [Vs A ps.length c, Vs B qs.length d]) rfl (by kernel_rfl) (In.emp W) rfl (R := fun r h' => r = Vo (decide (ps.map Pt.er = qs.map Pt.er))) ?_
  rw [v23]
  refine ⟨fun h => q_none ?_, fun h => ?_⟩
  · have hne : ps.length ≠ qs.length := by intro e; rw [e] at h; simp at h
    have : ¬ ps.map Pt.er = qs.map Pt.er := fun e => hne (by simpa using congrArg List.length e)
    rw [decide_eq_false this]; rfl
  · have hne : ps.length = qs.length := by
      have : ((ps.length : Int) == (qs.length : Int)) = true := by simpa [bne] using h
      have := of_decide_eq_true (p := (ps.length : Int) = (qs.length : Int)) (by simpa using this)
      omega
    refine ⟨fun x _ => ∃ i : Nat, i ≤ ps.length ∧ x.1 = (i : Int) ∧ (ps.map Pt.er).take i = (qs.map Pt.er).take i, fun x _ => ps.length - x.1.toNat, ⟨pU, ent_nil, 0, by omega, rfl, rfl⟩, ?_⟩
    rintro ⟨x1, _⟩ _ ⟨i, hi, hxi, ht⟩
    simp only at hxi
    subst hxi
    refine ⟨fun h => ?_, fun h => ?_⟩
    · have hlt : i < ps.length := by have := of_decide_eq_true h; simp only at this; omega
      have hlt' : i < qs.length := by omega
      have hA : A ≠ none := hp.1.some (by rw [flat_len Pt.cells 2 cells2]; omega)
      have hB : B ≠ none := hq.1.some (by rw [flat_len Pt.cells 2 cells2]; omega)
      have mp := hp.2 _ (List.getElem_mem hlt)
      have mq := hq.2 _ (List.getElem_mem hlt')
      simp only
      rw [Int.toNat_natCast]
      refine ⟨⟨hA, by omega, by omega⟩, ldB_pat hb hp.1 i hlt ⟨⟨hB, by omega, by omega⟩, ldB_pat hb hq.1 i hlt' ⟨fun h => q_none ?_, fun h => ⟨⟨hA, by omega, by omega⟩, ?_⟩⟩⟩⟩
      · have : ¬ ps.map Pt.er = qs.map Pt.er := fun e => by
          have e1 : (ps.map Pt.er)[i]'(by simpa using hlt) = (qs.map Pt.er)[i]'(by simpa using hlt') := by simp only [e]
          simp only [List.getElem_map, Pt.er, Prod.mk.injEq] at e1
          rw [e1.1] at h; simp at h
        rw [decide_eq_false this]; rfl
      · have hat : ps[i].at_ = qs[i].at_ := by simpa [bne] using h
        refine ldB_data hb hp.1 i hlt (ldB_str hb mp.1 slc30 u5 u9 rfl ⟨⟨hB, by omega, by omega⟩, ldB_data hb hq.1 i hlt' (ldB_str hb mq.1 slc30 u5 u9 rfl ?_)⟩)
        rw [btx_toList, btx_toList]
        refine ⟨fun h => q_none ?_, fun h x hx => ⟨pU, ent_nil, ⟨i + 1, by omega, ?_, ?_⟩, ?_⟩⟩
        · have : ¬ ps.map Pt.er = qs.map Pt.er := fun e => by
            have e1 : (ps.map Pt.er)[i]'(by simpa using hlt) = (qs.map Pt.er)[i]'(by simpa using hlt') := by simp only [e]
            simp only [List.getElem_map, Pt.er, Prod.mk.injEq] at e1
            rw [e1.2] at h; simp at h
          rw [decide_eq_false this]; rfl
        · rw [hx, wr_id (by omega) (by omega)]; omega
        · have hd : ps[i].d = qs[i].d := by simpa using h
          rw [List.take_succ_eq_append_getElem (by simpa using hlt), List.take_succ_eq_append_getElem (by simpa using hlt'), ht]
          simp [Pt.er, hat, hd]
        · rw [hx, wr_id (by omega) (by omega)]; omega
    · have he : i = ps.length := by have := of_decide_eq_false h; simp only at this; omega
      subst he
      have : ps.map Pt.er = qs.map Pt.er := by
        have e1 : (ps.map Pt.er).take ps.length = ps.map Pt.er := List.take_of_length_le (by simp)
        have e2 : (qs.map Pt.er).take ps.length = qs.map Pt.er := List.take_of_length_le (by simp; omega)
        rw [e1, e2] at ht; exact ht
      refine q_none ?_
      rw [decide_eq_true this]; rfl
theorem setAt_part (ns : List Pt) (p q : Pt) (r : List Pt) : setAt ((ns ++ p :: r).flatMap Pt.cells) (ns.length * 2) q.cells = (ns ++ q :: r).flatMap Pt.cells := by
  have hl := flat_len Pt.cells 2 cells2 ns
  rw [List.flatMap_append, List.flatMap_append, List.flatMap_cons, List.flatMap_cons]
  rw [setAt_mid _ _ _ (by rw [List.length_append, List.length_append, hl, cells2, cells2]; omega), cells2, List.take_append_of_le_length (by omega), List.take_of_length_le (by omega), List.append_assoc]
  congr 2
  rw [List.drop_append, hl, List.drop_eq_nil_of_le (by omega), List.nil_append, Nat.add_sub_cancel_left]
  rfl
theorem call_ownp {c : Ctx} {cs : List Ch} {B A : Option Addr} {n cp : Nat} {ps ns : List Pt} {xs : List Value} {O : Hp → Prop} (e1 : cs[1]? = some (.own (PRp B ps))) (e2 : cs[2]? = some (.own O)) (hO : ∀ h, O h → Sep (Row 104 2 (A, n, cp) xs) (PtsE Hp.emp ns) h)
    (p : Pt) (hp : p ∈ ps) (hn : p.d.length ≤ 1000000) {k : (OS.one (.agg [.int .i64, .slc])).ty → TupF [(2, .own)] → Prop}
    (hk : ∀ A' c', k (p.at_, (A', p.d.length, c'), pU) (Sep (Row 104 2 (A, n, cp) xs) (PtsE Hp.emp (ns ++ [⟨p.at_, A', c', p.d⟩])), pU)) :
    (hops Try.prog c).n (OS.one (.agg [.int .i64, .slc])) (callVal (.func (.func 54) #[] #[]) #[.agg #[Vi p.at_, Vs p.A p.d.length p.c]]) cs [(2, .own)] k := by
  refine n_call ?_
  refine call_sel [1, 2] (by kernel_rfl) (by decide) (fun n hn => ?_) (Base.emp c) fun W1 hp' hr1 ip ir sp ig1 d1 d2 d3 => ?_
  · simp only [List.mem_cons, List.not_mem_nil, or_false] at hn
    rcases hn with rfl | rfl
    · exact (List.getElem?_eq_some_iff.1 e1).1
    · exact (List.getElem?_eq_some_iff.1 e2).1
  · obtain ⟨a1, k1, da, rfl, s1, a2, k2, db, rfl, s2, e5⟩ := sp
    obtain rfl : k2 = Hp.emp := e5
    rw [Hp.un_emp] at da ip ⊢
    simp only [List.getD, e1, e2, Option.getD_some] at s1 s2
    obtain ⟨ia, ib⟩ := (in_un da).1 ip
    have hw := own_ok ia p (s1.2 p hp) hn
    have hq := Ok.beside (Q := fun r h' => ∃ A' c', r = .agg #[Vi p.at_, Vs A' p.d.length c'] ∧ Sep (PRp B ps) (Sep (Row 104 2 (A, n, cp) xs) (PtsE Hp.emp (ns ++ [⟨p.at_, A', c', p.d⟩]))) h') hw (Disj.emp_left (a1.un a2)) ip ?_
    · rw [Hp.emp_un] at hq
      refine Ok.mono hq ?_
      rintro r h' W2 _ _ ⟨A', c', hr2, t⟩
      refine ⟨(p.at_, (A', p.d.length, c'), pU), (Sep (Row 104 2 (A, n, cp) xs) (PtsE Hp.emp (ns ++ [⟨p.at_, A', c', p.d⟩])), pU), [.own (PRp B ps), .own (Sep (Row 104 2 (A, n, cp) xs) (PtsE Hp.emp (ns ++ [⟨p.at_, A', c', p.d⟩])))], h', hr2, Sub.refl _, rfl, ?_, ?_, hk A' c'⟩
      · obtain ⟨g1, g2, d5, rfl, t1, t2⟩ := t
        exact ⟨g1, g2, d5, rfl, t1, satL_one t2⟩
      · simp only [applyF, CF.ch, setMany]
        rw [set_same e1]
    · rintro r h' dd ⟨A', c', hr2, hrow⟩
      obtain ⟨dd1, dd2⟩ := disj_un_right.1 dd
      obtain ⟨g1, g2, d5, rfl, t1, t2⟩ := hO _ s2
      obtain ⟨dd3, dd4⟩ := disj_un_right.1 dd2
      obtain ⟨da1, da2⟩ := disj_un_right.1 da
      refine ⟨A', c', hr2, a1, g1.un (g2.un h'), disj_un_right.2 ⟨da1, disj_un_right.2 ⟨da2, dd1.symm⟩⟩, ?_, s1, g1, g2.un h', disj_un_right.2 ⟨d5, dd3.symm⟩, rfl, t1, ?_⟩
      · rw [Hp.un_comm dd, Hp.un_assoc, Hp.un_assoc]
      · intro q hq hh sq _
        rcases List.mem_append.1 hq with hm | hm
        · exact t2 q hm hh (Sub.trans (sub_left _ _) sq) (Sub.emp _)
        · rw [List.mem_singleton.1 hm]
          exact ⟨hrow.rd.mono (Sub.trans (sub_right dd4.symm) sq), hrow.2.1⟩
def SrtL (L : List PB) : Prop := ∀ i (h : i + 1 < L.length), L[i].1 ≤ L[i + 1].1
theorem SrtL.srt {ps : List Pt} (h : SrtL (ps.map Pt.er)) : Srt ps := fun i hi => by
  have := h i (by simpa using hi)
  simpa [Pt.er] using this
theorem Parts_ok {W : World} {h : Hp} (hin : In W h) {b : Nat} {room nx : Int} {d : List UInt8} {L : List PB} (hh : RcvO b room nx d L h) (hs : SrtL L) (hn : L.length ≤ 12) (hl : ∀ p ∈ L, p.2.length ≤ 1000000) :
    Ok Try.prog 24 #[Vp (some ⟨b, 0, none⟩)] W h fun r h' _ => ∃ A c, r = Vs A L.length c ∧ Sep (RcvO b room nx d L) (PR A L) h' := by
  obtain ⟨A, c, B, m, h1, h2, d12, rfl, hb1, h3, h4, d34, rfl, hrow, hpr⟩ := hh
  obtain ⟨ps, rfl, hps⟩ := hpr
  have hps : PRp B ps h4 := hps
  rw [List.length_map] at hn hb1
  obtain ⟨d13, d14⟩ := disj_un_right.1 d12
  have eh : h1.un (h3.un h4) = (h1.un h4).un h3 := by rw [Hp.un_comm d34, Hp.un_assoc]
  rw [eh] at hin ⊢
  have dk : Disj (h1.un h4) h3 := disj_un_left.2 ⟨d13, d34.symm⟩
  obtain ⟨i14, i3⟩ := (in_un dk).1 hin
  refine Ok.beside (R := fun r h' => ∃ A' c' ns, ns.map Pt.er = ps.map Pt.er ∧ r = Vs A' ps.length c' ∧ Sep (Sep (Bk b [Vi room, Vi nx, Vs A d.length c, Vs B ps.length m] 102) (PRp B ps)) (PRp A' ns) h') ?_ dk i3 ?_
  · refine exec_ok' (P := Try.prog) a24 (fn := Try.f24) (by kernel_rfl) (args := [.ptr 0 0]) (cs := [.blk b [Vi room, Vi nx, Vs A d.length c, Vs B ps.length m] 102, .own (PRp B ps), .none, .none]) (vs := [Vp (some ⟨b, 0, none⟩)]) rfl (by kernel_rfl) i14
      ⟨h1, h4, d14, rfl, hb1, h4, Hp.emp, Disj.emp_right _, (Hp.un_emp _).symm, hps, satL_none (satL_none rfl)⟩ ?_
    rw [v24]
    refine ⟨rfl, ?_⟩
    refine call_make 2 (by kernel_rfl) rfl (Base.emp _) fun W' h' i s ig dg => ?_
    have hps' : PRp B ps h' := by
      obtain ⟨k1, s1, hsub⟩ := satL_sub s (i := 1) rfl
      exact ⟨s1.1.mono hsub, fun p hp => (s1.2 p hp).mono hsub⟩
    refine Ok.mono (cloneP_ok i (c := m) hps'.1 (by omega)) fun r h'' W'' _ _ ⟨A', c', hr, ho⟩ => ⟨(A', ps.length, c'), _, hr, ho, ?_⟩
    have hA' : 0 < ps.length → A' ≠ none := fun h0 => ho.some h0
    refine ⟨fun x y => ∃ ns, ns.length ≤ ps.length ∧ x.1 = (ns.length : Int) ∧ ns.map Pt.er = (ps.take ns.length).map Pt.er ∧ ∀ h, y.1 h → Sep (Row 104 2 (A', ps.length, c') ((ns ++ ps.drop ns.length).flatMap Pt.cells)) (PtsE Hp.emp ns) h, fun x y => ps.length - x.1.toNat,
      ⟨(Row 104 2 (A', ps.length, c') (ps.flatMap Pt.cells), pU, pU), ent_same (ent_same (ent_same (ent_same ent_nil))), [], by simp, rfl, rfl, fun h o => ⟨h, Hp.emp, Disj.emp_right _, (Hp.un_emp _).symm, o, fun p hp => by simp at hp⟩⟩, ?_⟩
    rintro ⟨x1, _⟩ ⟨O, _, _⟩ ⟨ns, hnl, hx1, her, hO⟩
    simp only at hx1
    subst hx1
    refine ⟨fun hc => ?_, fun hc => ?_⟩
    · have hlt : ns.length < ps.length := by have := of_decide_eq_true hc; simp only at this; omega
      simp only
      rw [Int.toNat_natCast]
      have hidx : A' ≠ none ∧ (0 : Int) ≤ (ns.length : Int) ∧ (ns.length : Int) < (ps.length : Int) := ⟨hA' (by omega), by omega, by omega⟩
      refine ⟨hidx, ?_⟩
      refine ld_part (ps := ns ++ ps.drop ns.length) (rd_chunk 2 rfl fun h o => by
        obtain ⟨g1, g2, d5, rfl, t1, t2⟩ := hO h o
        exact t1.rd.left) ns.length (by simp; omega) fun b1 => ?_
      have hget : (ns ++ ps.drop ns.length)[ns.length]'(by simp; omega) = ps[ns.length] := by simp
      rw [hget]
      have hmem : ps[ns.length] ∈ ps := List.getElem_mem hlt
      refine call_ownp rfl rfl hO ps[ns.length] hmem (hl ps[ns.length].er (List.mem_map_of_mem hmem)) fun A2 c2 => ⟨hidx, ?_⟩
      have hdr : ps.drop ns.length = ps[ns.length] :: ps.drop (ns.length + 1) := List.drop_eq_getElem_cons hlt
      have hset := setAt_part ns ps[ns.length] ⟨ps[ns.length].at_, A2, c2, ps[ns.length].d⟩ (ps.drop (ns.length + 1))
      rw [← hdr] at hset
      refine u_store 2 rfl (fun h o => o) rfl u104 (by rw [sz104]; rfl) (by rw [sz104, flat_len Pt.cells 2 cells2]; simp; omega) rfl ?_
      refine ⟨(_, pU, pU), ent_same (ent_same (ent_same (ent_gone ent_nil))), ⟨ns ++ [⟨ps[ns.length].at_, A2, c2, ps[ns.length].d⟩], by simp; omega, ?_, ?_, fun h o => ?_⟩, ?_⟩
      · rw [wr_id (by omega) (by omega)]; simp
      · rw [List.length_append, List.length_singleton, List.take_succ_eq_append_getElem hlt, List.map_append, List.map_append, her]
        rfl
      · simp only at o
        change Sep (Row 104 2 (A', ps.length, c') (setAt ((ns ++ ps.drop ns.length).flatMap Pt.cells) (ns.length * 2) (Pt.cells ⟨ps[ns.length].at_, A2, c2, ps[ns.length].d⟩))) (PtsE Hp.emp (ns ++ [⟨ps[ns.length].at_, A2, c2, ps[ns.length].d⟩])) h at o
        rw [hset] at o
        simpa using o
      · rw [wr_id (by omega) (by omega)]; omega
    · have hlt : ns.length = ps.length := by have := of_decide_eq_false hc; simp only at this; omega
      have hdr : ns ++ ps.drop ns.length = ns := by rw [List.drop_eq_nil_of_le (by omega), List.append_nil]
      rw [hdr] at hO
      have her' : ns.map Pt.er = ps.map Pt.er := by rw [her, List.take_of_length_le (by omega)]
      have hsrt : Srt ns := SrtL.srt (by rw [her']; exact hs)
      simp only
      refine call_read (by kernel_rfl) (Base.emp _) fun W1 h1 i1 s1 _ _ => ?_
      have hsort := sort_ok (W := W1) (c := c') i1 (rd_chunk 2 rfl (fun h o => by
        obtain ⟨g1, g2, d5, rfl, t1, t2⟩ := hO h o
        exact t1.rd.left) h1 s1) hsrt (by omega)
      rw [hlt] at hsort
      refine Ok.mono hsort fun r h' W' _ _ hr' => ⟨pU, hr', fin3 fun g1 g2 g3 d1 d2 s1 s2 s3 => ?_⟩
      obtain ⟨dd1, dd2⟩ := disj_un_right.1 d1
      refine ⟨A', c', ns, her', rfl, g1.un g2, g3, disj_un_left.2 ⟨dd2, d2⟩, (Hp.un_assoc _ _ _).symm, ⟨g1, g2, dd1, rfl, s1, s2⟩, ?_⟩
      obtain ⟨k1, k2, d5, rfl, t1, t2⟩ := hO g3 s3
      exact ⟨t1.rd.left, fun p hp => t2 p hp _ (sub_right d5) (Sub.emp _)⟩
  · rintro r h' dk' ⟨A', c', ns, her, hr, g3, g4, dd, rfl, ⟨g1, g2, d5, rfl, s1, s2⟩, s3⟩
    obtain ⟨da, db⟩ := disj_un_left.1 dk'
    obtain ⟨dc, de⟩ := disj_un_left.1 da
    refine ⟨A', c', by rw [List.length_map]; exact hr, g1.un (h3.un g2), g4, ?_, ?_, ⟨A, c, B, m, g1, h3.un g2, disj_un_right.2 ⟨dc, d5⟩, rfl, ?_, h3, g2, de.symm, rfl, hrow, s2.pr⟩, ?_⟩
    · obtain ⟨dd1, dd2⟩ := disj_un_left.1 dd
      exact disj_un_left.2 ⟨dd1, disj_un_left.2 ⟨db.symm, dd2⟩⟩
    · rw [Hp.un_assoc, Hp.un_comm db, ← Hp.un_assoc, Hp.un_assoc g1 g2 h3, Hp.un_comm de]
    · rw [List.length_map]; exact s1
    · rw [← her]; exact s3.pr
end Go.Proofs.FlowVc
