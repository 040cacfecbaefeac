/- Contracts: parts that are merged, all. -/
import Derived.Test.YtkignenfgilepaaFlD
open Go Go.SL Go.Proofs
set_option maxRecDepth 100000
set_option linter.unusedVariables false
namespace Go.Proofs.FlowVc
def stepF (p : PB) (s : List PB × Int) (q : PB) : List PB × Int :=
  (addF (if s.2 < q.1 ∧ s.2 < p.1 + p.2.length then addF s.1 (s.2, (p.2.take ((if p.1 + p.2.length < q.1 then p.1 + p.2.length else q.1) - p.1).toNat).drop (s.2 - p.1).toNat) else s.1) q,
    if q.1 + q.2.length > s.2 then q.1 + q.2.length else s.2)
def foldF (p : PB) (L : List PB) : List PB × Int := L.foldl (stepF p) ([], p.1)
def mergeF (L : List PB) (p : PB) : List PB :=
  if (foldF p L).2 < p.1 + p.2.length then addF (foldF p L).1 ((foldF p L).2, p.2.drop ((foldF p L).2 - p.1).toNat) else (foldF p L).1
theorem bd_one (q : PB) : Bd [q] ↔ 0 ≤ q.1 ∧ q.1 + q.2.length ≤ 2000000000 := by simp [Bd]
theorem bd_app (L M : List PB) : Bd (L ++ M) ↔ Bd L ∧ Bd M := by
  simp only [Bd, List.mem_append]
  exact ⟨fun h => ⟨fun p hp => h p (.inl hp), fun p hp => h p (.inr hp)⟩, fun h p hp => hp.elim (h.1 p) (h.2 p)⟩
theorem addF_nil (q : PB) : addF [] q = if q.2.length = 0 then [] else [q] := rfl
theorem addF_app (L : List PB) (p q : PB) : addF (L ++ [p]) q = if q.1 ≤ p.1 + p.2.length then (if (p.1 + p.2.length - q.1).toNat < q.2.length then L ++ [(p.1, p.2 ++ q.2.drop (p.1 + p.2.length - q.1).toNat)] else L ++ [p]) else if q.2.length = 0 then L ++ [p] else L ++ [p] ++ [q] := by
  unfold addF
  simp
theorem addF_bd {L : List PB} {q : PB} (h : Bd L) (hq : Bd [q]) : Bd (addF L q) := by
  rcases List.eq_nil_or_concat L with e | ⟨l, a, e⟩
  · subst e; rw [addF_nil]; split <;> assumption
  · rw [List.concat_eq_append] at e
    subst e
    rw [addF_app]
    obtain ⟨h1, h2⟩ := (bd_app _ _).1 h
    rw [bd_one] at h2
    have hq' := (bd_one _).1 hq
    split
    · split
      · refine (bd_app _ _).2 ⟨h1, (bd_one _).2 ⟨h2.1, ?_⟩⟩
        simp only [List.length_append, List.length_drop]
        omega
      · exact h
    · split
      · exact h
      · exact (bd_app _ _).2 ⟨h, hq⟩
theorem addF_len (L : List PB) (q : PB) : (addF L q).length ≤ L.length + 1 := by
  rcases List.eq_nil_or_concat L with e | ⟨l, a, e⟩
  · subst e; rw [addF_nil]; split <;> simp
  · rw [List.concat_eq_append] at e
    subst e
    rw [addF_app]
    split
    · split <;> simp
    · split <;> simp
theorem call_add {c : Ctx} {g : Hp} (hb : Base c g) {cs : List Ch} {b : Nat} {B : Option Addr} {m d : Nat} {L : List PB} {O : Hp → Prop} (c1 : cs[1]? = some (.blk b [Vs B m d] 43)) (c3 : cs[3]? = some (.own O)) (hO : ∀ h, O h → OutR g (B, m, d) L h)
    (q : Pt) (hq : q.ok g) (hL : Bd L) (hqb : Bd [q.er]) (hn : L.length ≤ 100000) {k : (OS.tup []).ty → TupF [(1, .blk [.slc]), (3, .own)] → Prop}
    (hk : ∀ B' m' d', k pU (((B', m', d'), pU), OutR g (B', m', d') (addF L q.er), pU)) :
    (hops Try.prog c).n (OS.tup []) (callVal (.func (.func 103) #[] #[Vp (some ⟨b, 0, none⟩)]) #[.agg #[Vi q.at_, Vs q.A q.d.length q.c]]) cs [(1, .blk [.slc]), (3, .own)] k := by
  refine n_call ?_
  refine call_sel [1, 3] (by kernel_rfl) (by decide) (fun n hn => ?_) hb fun W hp hr ip ir sp ig d1 d2 d3 => ?_
  · simp only [List.mem_cons, List.not_mem_nil, or_false] at hn
    rcases hn with rfl | rfl
    · exact (List.getElem?_eq_some_iff.1 c1).1
    · exact (List.getElem?_eq_some_iff.1 c3).1
  · obtain ⟨a1, a2, da, rfl, s1, a3, a4, db, rfl, s3, e4⟩ := sp
    obtain rfl : a4 = Hp.emp := e4
    rw [Hp.un_emp] at *
    simp only [List.getD, c1, c3, Option.getD_some] at s1 s3
    refine Ok.mono (add_ok ig ip d2 (q := q) ⟨a1, a3, da, rfl, s1, hO _ s3⟩ hq hL hqb hn) fun r h' W' _ _ ⟨hr, B', m', d', g1, g2, dg, e, k1, k2⟩ => ?_
    refine ⟨pU, (((B', m', d'), pU), OutR g (B', m', d') (addF L q.er), pU), [.blk b [Vs B' m' d'] 43, .own (OutR g (B', m', d') (addF L q.er))], h', hr, Sub.refl _, rfl, ?_, ?_, hk B' m' d'⟩
    · rw [e]; exact ⟨g1, g2, dg, rfl, k1, satL_one k2⟩
    · simp only [applyF, CF.ch, c1, setMany]
      rfl
/-- Parts that are merged. -/
theorem merge_ok {W : World} {g : Hp} (hg : In W g) {B : Option Addr} {d : Nat} {ps : List Pt} (hB : Rd g B (ps.flatMap Pt.cells)) (hps : ∀ q ∈ ps, q.ok g) (p : Pt) (hp : p.ok g) (hL : Bd (ps.map Pt.er)) (hpb : Bd [p.er]) (hn : ps.length ≤ 1000) :
    Ok Try.prog 82 #[Vs B ps.length d, .agg #[Vi p.at_, Vs p.A p.d.length p.c]] W Hp.emp fun r h' _ => ∃ A n c, r = Vs A n c ∧ OutR g (A, n, c) (mergeF (ps.map Pt.er) p.er) h' := by
  have hb : Base ⟨W, Hp.emp⟩ g := ⟨hg, Disj.emp_left _⟩
  refine exec_ok' (P := Try.prog) a82 (fn := Try.f82) (by kernel_rfl) (args := [.raw (Vs B ps.length d), .raw (.agg #[Vi p.at_, Vs p.A p.d.length p.c])]) (cs := [.none, .none, .none, .none]) (vs := [Vs B ps.length d, .agg #[Vi p.at_, Vs p.A p.d.length p.c]]) rfl (by kernel_rfl) (In.emp W) (satL_none (satL_none (satL_none (satL_none rfl))))
    (R := fun r h' => ∃ A n c, r = Vs A n c ∧ OutR g (A, n, c) (mergeF (ps.map Pt.er) p.er) h') ?_
  rw [v82]
  intro b b1
  have hp0 := (bd_one _).1 hpb
  simp only [Pt.er] at hp0
  let F := fun i => foldF p.er ((ps.map Pt.er).take i)
  have F0 : F 0 = ([], p.at_) := rfl
  have Fs : ∀ i (hi : i < ps.length), F (i + 1) = stepF p.er (F i) ps[i].er := fun i hi => by
    show foldF _ _ = _
    unfold foldF
    rw [List.take_succ_eq_append_getElem (by simpa using hi), List.foldl_append]
    simp only [List.getElem_map, List.foldl_cons, List.foldl_nil]
    rfl
  refine ⟨fun x y => ∃ i, i ≤ ps.length ∧ x = ((F i).2, (i : Int), pU) ∧ (∀ h, y.2.2.1 h → OutR g y.1.1 (F i).1 h) ∧ Bd (F i).1 ∧ (F i).1.length ≤ 2 * i ∧ p.at_ ≤ (F i).2 ∧ (F i).2 ≤ 2000000000,
    fun x y => ps.length - x.2.1.toNat, ⟨(((none, 0, 0), pU), pU, fun h => h = Hp.emp, pU), ent_same (ent_same (ent_same (ent_ownE rfl ent_nil))), 0, by omega, rfl, ?_, ?_, ?_, ?_, ?_⟩, ?_⟩
  · intro h e
    exact ⟨[], rfl, Hp.emp, Hp.emp, Disj.emp_left _, by rw [Hp.un_emp]; exact e, Row.nil _ _ _, fun p hp => by simp at hp⟩
  · rw [F0]; intro p hp; simp at hp
  · rw [F0]; simp
  · rw [F0]; simp
  · rw [F0]; simp only; omega
  · rintro x ⟨⟨⟨B', m', d'⟩, _⟩, _, O, _⟩ ⟨i, hi, rfl, hO, hbd, hlen, hat1, hat2⟩
    simp only
    refine ⟨fun h => ?_, fun h => ?_⟩
    · have hlt : i < ps.length := by have := of_decide_eq_true h; omega
      have hne : B ≠ none := hB.some (by rw [flat_len Pt.cells 2 cells2]; omega)
      refine ⟨⟨hne, by omega, by omega⟩, ?_⟩
      rw [Int.toNat_natCast]
      refine ldB_part hb hB i hlt fun b2 => ?_
      have hqm : ps[i] ∈ ps := List.getElem_mem hlt
      obtain ⟨q, hq⟩ : ∃ q, ps[i] = q := ⟨_, rfl⟩
      have hFs := Fs i hlt
      rw [hq] at hqm hFs ⊢
      have hqb : Bd [q.er] := (bd_one _).2 (hL q.er (List.mem_map_of_mem hqm))
      have hq0 := (bd_one _).1 hqb
      simp only [Pt.er] at hq0
      obtain ⟨at', hat⟩ : ∃ x, (F i).2 = x := ⟨_, rfl⟩
      rw [hat] at hat1 hat2
      have e1 : (F (i + 1)).1 = addF (if at' < q.at_ ∧ at' < p.at_ + p.d.length then addF (F i).1 (at', (p.d.take ((if p.at_ + p.d.length < q.at_ then p.at_ + p.d.length else q.at_) - p.at_).toNat).drop (at' - p.at_).toNat) else (F i).1) q.er := by
        rw [hFs, ← hat]; rfl
      have e2 : (F (i + 1)).2 = if q.at_ + q.d.length > at' then q.at_ + q.d.length else at' := by
        rw [hFs, ← hat]; rfl
      have b2' : p.at_ ≤ (F (i + 1)).2 ∧ (F (i + 1)).2 ≤ 2000000000 := by rw [e2]; split <;> omega
      have fin1 : ∀ L1, (if at' < q.at_ ∧ at' < p.at_ + p.d.length then addF (F i).1 (at', (p.d.take ((if p.at_ + p.d.length < q.at_ then p.at_ + p.d.length else q.at_) - p.at_).toNat).drop (at' - p.at_).toNat) else (F i).1) = L1 → Bd L1 → L1.length ≤ 2 * i + 1 → (F (i + 1)).1 = addF L1 q.er ∧ Bd (F (i + 1)).1 ∧ (F (i + 1)).1.length ≤ 2 * (i + 1) := by
        intro L1 hl1 hbd1 hlen1
        rw [e1, hl1]
        have := addF_len L1 q.er
        exact ⟨rfl, addF_bd hbd1 hqb, by omega⟩
      rw [hat]
      refine ⟨fun h => ?_, fun h => ?_⟩
      · have h1 : at' < q.at_ := of_decide_eq_true h
        refine call_end p.at_ p.A p.d.length p.c (by omega) ⟨fun h' => ?_, fun h' => ?_⟩
        · have h2 : at' < p.at_ + p.d.length := of_decide_eq_true h'
          refine call_end p.at_ p.A p.d.length p.c (by omega) ?_
          obtain ⟨u, hu⟩ : ∃ u : Nat, at' - p.at_ = (u : Int) := ⟨(at' - p.at_).toNat, by omega⟩
          obtain ⟨v, hv⟩ : ∃ v : Nat, (if p.at_ + (p.d.length : Int) < q.at_ then p.at_ + (p.d.length : Int) else q.at_) - p.at_ = (v : Int) := by
            refine ⟨((if p.at_ + (p.d.length : Int) < q.at_ then p.at_ + (p.d.length : Int) else q.at_) - p.at_).toNat, ?_⟩
            split <;> omega
          have huv : u ≤ v ∧ v ≤ p.d.length := by split at hv <;> omega
          simp only
          rw [wr_id (n := at' - p.at_) (by omega) (by omega), wr_id (n := (if p.at_ + (p.d.length : Int) < q.at_ then p.at_ + (p.d.length : Int) else q.at_) - p.at_) (by omega) (by omega), hu, hv]
          have hpc := hp.2
          refine ⟨⟨by omega, by omega, by omega⟩, ?_⟩
          simp only [Int.toNat_natCast]
          have hx : (if at' < q.at_ ∧ at' < p.at_ + p.d.length then addF (F i).1 (at', (p.d.take ((if p.at_ + p.d.length < q.at_ then p.at_ + p.d.length else q.at_) - p.at_).toNat).drop (at' - p.at_).toNat) else (F i).1) = addF (F i).1 (at', (p.d.take v).drop u) := by
            rw [if_pos ⟨h1, h2⟩, hu, hv, Int.toNat_natCast, Int.toNat_natCast]
          have hlp : ((p.d.take v).drop u).length = v - u := by simp; omega
          have hb' : Bd [(at', (p.d.take v).drop u)] := (bd_one _).2 ⟨by simp only; omega, by simp only [hlp]; omega⟩
          have hrd : Rd g (subA p.A p.c u 1) (bts ((p.d.take v).drop u)) := by
            have := (hp.1.take v).subA (n := v) (size := 1) (c := p.c) (by simp [bts_len]; omega) (by omega) u (by omega)
            rw [Nat.mul_one, bts_take, bts_drop] at this
            exact this
          have hadd := addF_len (F i).1 (at', (p.d.take v).drop u)
          rw [show v - u = ((p.d.take v).drop u).length from hlp.symm]
          obtain ⟨f1, f2, f3⟩ := fin1 _ hx (addF_bd hbd hb') (by omega)
          refine call_add hb rfl rfl hO ⟨at', subA p.A p.c u 1, p.c - u, (p.d.take v).drop u⟩ ⟨hrd, by simp only [hlp]; omega⟩ hbd hb' (by omega) fun B1 m1 d1 => ?_
          refine call_add hb rfl rfl (fun h o => o) q (hps q hqm) (addF_bd hbd hb') hqb (by omega) fun B2 m2 d2 => ?_
          refine call_end q.at_ q.A q.d.length q.c (by omega) fun x hx => ?_
          rw [hx, wr_id (by omega) (by omega)]
          refine ⟨(((B2, m2, d2), pU), pU, OutR g (B2, m2, d2) (addF (addF (F i).1 (at', (p.d.take v).drop u)) q.er), pU), ent_same (ent_same (ent_gone (ent_same ent_nil))), ⟨i + 1, by omega, by rw [e2]; rfl, by rw [f1]; exact fun h o => o, f2, f3, b2'.1, b2'.2⟩, by omega⟩
        · have h2 : ¬ at' < p.at_ + p.d.length := of_decide_eq_false h'
          obtain ⟨f1, f2, f3⟩ := fin1 (F i).1 (if_neg fun h => h2 h.2) hbd (by omega)
          refine call_add hb rfl rfl hO q (hps q hqm) hbd hqb (by omega) fun B1 m1 d1 => ?_
          refine call_end q.at_ q.A q.d.length q.c (by omega) fun x hx => ?_
          rw [hx, wr_id (by omega) (by omega)]
          refine ⟨(((B1, m1, d1), pU), pU, OutR g (B1, m1, d1) (addF (F i).1 q.er), pU), ent_same (ent_same (ent_gone (ent_same ent_nil))), ⟨i + 1, by omega, by rw [e2]; rfl, by rw [f1]; exact fun h o => o, f2, f3, b2'.1, b2'.2⟩, by omega⟩
      · have h1 : ¬ at' < q.at_ := of_decide_eq_false h
        obtain ⟨f1, f2, f3⟩ := fin1 (F i).1 (if_neg fun h => h1 h.1) hbd (by omega)
        refine call_add hb rfl rfl hO q (hps q hqm) hbd hqb (by omega) fun B1 m1 d1 => ?_
        refine call_end q.at_ q.A q.d.length q.c (by omega) fun x hx => ?_
        rw [hx, wr_id (by omega) (by omega)]
        refine ⟨(((B1, m1, d1), pU), pU, OutR g (B1, m1, d1) (addF (F i).1 q.er), pU), ent_same (ent_same (ent_gone (ent_same ent_nil))), ⟨i + 1, by omega, by rw [e2]; rfl, by rw [f1]; exact fun h o => o, f2, f3, b2'.1, b2'.2⟩, by omega⟩
    · have he : i = ps.length := by have := of_decide_eq_false h; omega
      subst he
      refine call_end p.at_ p.A p.d.length p.c (by omega) ⟨fun h' => ?_, fun h' => ?_⟩
      · have hlt := of_decide_eq_true h'
        obtain ⟨u, hu⟩ : ∃ u : Nat, (F ps.length).2 - p.at_ = (u : Int) := ⟨((F ps.length).2 - p.at_).toNat, by omega⟩
        have e1 : mergeF (ps.map Pt.er) p.er = addF (F ps.length).1 ((F ps.length).2, p.d.drop u) := by
          show (if (foldF p.er (ps.map Pt.er)).2 < _ then _ else _) = _
          have : foldF p.er (ps.map Pt.er) = F ps.length := by
            show _ = foldF p.er _
            rw [List.take_of_length_le (by simp)]
          rw [this]; refine (if_pos (show _ < (Pt.er p).1 + ((Pt.er p).2.length : Int) from hlt)).trans ?_
          show addF _ (_, p.d.drop _) = _
          rw [show (Pt.er p).1 = p.at_ from rfl, hu, Int.toNat_natCast]
        rw [wr_id (by omega) (by omega), hu]
        refine ⟨⟨by omega, by omega⟩, ?_⟩
        rw [Int.toNat_natCast]
        have hlp : (p.d.drop u).length = p.d.length - u := by simp
        have hb' : Bd [((F ps.length).2, p.d.drop u)] := (bd_one _).2 ⟨by simp only; omega, by simp only [hlp]; omega⟩
        have hrd : Rd g (subA p.A p.c u 1) (bts (p.d.drop u)) := by
          have := hp.1.subA (n := p.d.length) (size := 1) (c := p.c) (by rw [bts_len]; omega) hp.2 u (by omega)
          rw [Nat.mul_one, bts_drop] at this
          exact this
        have hpc := hp.2
        rw [show p.d.length - u = (p.d.drop u).length from hlp.symm]
        refine call_add hb rfl rfl hO ⟨(F ps.length).2, subA p.A p.c u 1, p.c - u, p.d.drop u⟩ ⟨hrd, by simp only [hlp]; omega⟩ hbd hb' (by omega) fun B1 m1 d1 => ?_
        exact q_own 3 rfl fun h' o => ⟨B1, m1, d1, rfl, by rw [e1]; exact o⟩
      · have hlt := of_decide_eq_false h'
        have e1 : mergeF (ps.map Pt.er) p.er = (F ps.length).1 := by
          show (if (foldF p.er (ps.map Pt.er)).2 < _ then _ else _) = _
          have : foldF p.er (ps.map Pt.er) = F ps.length := by
            show _ = foldF p.er _
            rw [List.take_of_length_le (by simp)]
          rw [this]; exact if_neg (show ¬ _ < (Pt.er p).1 + ((Pt.er p).2.length : Int) from hlt)
        exact q_own 3 rfl fun h' o => ⟨B', m', d', rfl, by rw [e1]; exact hO _ o⟩
end Go.Proofs.FlowVc
