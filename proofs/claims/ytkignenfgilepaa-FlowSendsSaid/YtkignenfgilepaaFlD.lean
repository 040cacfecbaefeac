/- Contracts: parts that are merged. -/
import Derived.Test.YtkignenfgilepaaFlB
import Derived.Test.YtkignenfgilepaaFlC
open Go Go.SL Go.Proofs
set_option maxRecDepth 100000
set_option linter.unusedVariables false
namespace Go.Proofs.FlowVc
/-- A part as it lies: its place, where its bytes are. -/
structure Pt where
  at_ : Int
  A : Option Addr
  c : Nat
  d : List UInt8
abbrev PB := Int × List UInt8
def Pt.er (p : Pt) : PB := (p.at_, p.d)
def Pt.cells (p : Pt) : List Value := [Vi p.at_, Vs p.A p.d.length p.c]
def Pt.ok (h : Hp) (p : Pt) : Prop := Rd h p.A (bts p.d) ∧ p.d.length ≤ p.c
theorem Pt.ok.mono {g h : Hp} {p : Pt} (o : p.ok g) (s : Sub g h) : p.ok h := ⟨o.1.mono s, o.2⟩
theorem cells2 (p : Pt) : p.cells.length = 2 := rfl
/-- A part behind a row of parts: joined to the last, where it touches. -/
def addF (L : List PB) (q : PB) : List PB :=
  match L.getLast? with
  | some p => if q.1 ≤ p.1 + p.2.length then (if (p.1 + p.2.length - q.1).toNat < q.2.length then L.dropLast ++ [(p.1, p.2 ++ q.2.drop (p.1 + p.2.length - q.1).toNat)] else L) else if q.2.length = 0 then L else L ++ [q]
  | none => if q.2.length = 0 then L else L ++ [q]
def Bd (L : List PB) : Prop := ∀ p ∈ L, 0 ≤ p.1 ∧ p.1 + p.2.length ≤ 2000000000
/-- What a row of parts leans on. -/
def PtsE (g : Hp) (ps : List Pt) (e : Hp) : Prop := ∀ p ∈ ps, ∀ h, Sub e h → Sub g h → p.ok h
def OutR (g : Hp) (v : Option Addr × Nat × Nat) (L : List PB) (h : Hp) : Prop :=
  ∃ ps : List Pt, ps.map Pt.er = L ∧ Sep (Row 104 2 v (ps.flatMap Pt.cells)) (PtsE g ps) h
theorem el43 : elemP Try.prog 43 = some (104, 2, 32, .agg #[Vi 0, Vs none 0 0]) := by kernel_rfl
theorem slc43 : Try.prog.underlying 43 = some (.slice 104) := by kernel_rfl
theorem u104 : (Try.prog.underlying 104).isSome = true := by kernel_rfl
theorem u30 : (Try.prog.underlying 30).isSome = true := by kernel_rfl
theorem one30 : oneP Try.prog 30 = true := by kernel_rfl
theorem sz104 : sizeP Try.prog 104 = 2 := by kernel_rfl
theorem agg104 (cs : List Value) (off : Nat) : partL Try.prog 104 cs off = some (.agg ((cs.drop off).take 2).toArray) := by
  have : isAggP Try.prog 104 = true := by kernel_rfl
  unfold partL
  rw [this, sz104]
theorem ld_part {c : Ctx} {cs : List Ch} {A : Option Addr} {ps : List Pt} (R : ∀ h, satL cs h → Rd h A (ps.flatMap Pt.cells)) (i : Nat) (hi : i < ps.length) {kk : (OS.one (.agg [.int .i64, .slc])).ty → Prop}
    (hk : kk (ps[i].at_, (ps[i].A, ps[i].d.length, ps[i].c), pU)) : (hops Try.prog c).ld (OS.one (.agg [.int .i64, .slc])) (Instr.loadAt 104 (.pointer (some ((oget A).add (i * 2))))) cs kk := by
  have hl := flat_len Pt.cells 2 cells2 ps
  refine ld_at R u104 (k := i * 2) (r := OS.one (.agg [.int .i64, .slc])) (ps[i].at_, (ps[i].A, ps[i].d.length, ps[i].c), pU) (by omega) (by rw [sz104]; omega) ?_ hk
  rw [agg104, flat_get Pt.cells 2 cells2 ps i hi]
  rfl
theorem ldB_part {c : Ctx} {cs : List Ch} {g : Hp} (hb : Base c g) {A : Option Addr} {ps : List Pt} (R : Rd g A (ps.flatMap Pt.cells)) (i : Nat) (hi : i < ps.length) {kk : (OS.one (.agg [.int .i64, .slc])).ty → Prop}
    (hk : kk (ps[i].at_, (ps[i].A, ps[i].d.length, ps[i].c), pU)) : (hops Try.prog c).ld (OS.one (.agg [.int .i64, .slc])) (Instr.loadAt 104 (.pointer (some ((oget A).add (i * 2))))) cs kk := by
  have hl := flat_len Pt.cells 2 cells2 ps
  refine ldB_at hb R u104 (k := i * 2) (r := OS.one (.agg [.int .i64, .slc])) (ps[i].at_, (ps[i].A, ps[i].d.length, ps[i].c), pU) (by omega) (by rw [sz104]; omega) ?_ hk
  rw [agg104, flat_get Pt.cells 2 cells2 ps i hi]
  rfl
theorem ld_data {c : Ctx} {cs : List Ch} {A : Option Addr} {ps : List Pt} (R : ∀ h, satL cs h → Rd h A (ps.flatMap Pt.cells)) (i : Nat) (hi : i < ps.length) {kk : oS.ty → Prop}
    (hk : kk (ps[i].A, ps[i].d.length, ps[i].c)) : (hops Try.prog c).ld oS (Instr.loadAt 30 (.pointer (some ⟨((oget A).add (i * 2)).block, ((oget A).add (i * 2)).off + 1, none⟩))) cs kk := by
  have hl := flat_len Pt.cells 2 cells2 ps
  refine ld_cellf (k := i * 2) (f := 1) R one30 (ps[i].A, ps[i].d.length, ps[i].c) ?_ hk
  rw [flat_cell Pt.cells 2 cells2 ps i 1 hi (by omega)]
  rfl
theorem end_ok {W : World} (x : Int) (A : Option Addr) (n c : Nat) (h0 : 0 ≤ x ∧ x + n ≤ 9223372036854775807) : Ok Try.prog 104 #[.agg #[Vi x, Vs A n c]] W Hp.emp fun r h' _ => r = Vi (x + n) := by
  refine exec_ok' (P := Try.prog) a104 (fn := Try.f104) (by kernel_rfl) (args := [.raw (.agg #[Vi x, Vs A n c])]) (cs := [.none]) (vs := [.agg #[Vi x, Vs A n c]]) rfl (by kernel_rfl) (In.emp W) (satL_none rfl) (R := fun r h' => r = Vi (x + n)) ?_
  rw [v104]
  intro b
  rw [wr_id (by omega) (by omega)]
  exact q_none rfl
theorem call_end {c : Ctx} {cs : List Ch} (x : Int) (A : Option Addr) (n cp : Nat) (h0 : 0 ≤ x ∧ x + n ≤ 9223372036854775807) {k : oI.ty → PUnit → Prop} (hk : k (x + n) pU) :
    (hops Try.prog c).call oI 104 [.agg #[Vi x, Vs A n cp]] cs [] k :=
  call_read (by kernel_rfl) (Base.emp c) fun W h i s ig dg => Ok.mono (end_ok x A n cp h0) fun r h' W' _ _ hr => ⟨_, hr, hk⟩
theorem ptsE_app {g e : Hp} {ps : List Pt} {q : Pt} (h : PtsE g ps e) (hq : q.ok g) : PtsE g (ps ++ [q]) e := fun p hp hh s1 s2 => by
  rcases List.mem_append.1 hp with h1 | h1
  · exact h p h1 hh s1 s2
  · rw [List.mem_singleton.1 h1]; exact hq.mono s2
theorem ptsE_mono {g e e' : Hp} {ps : List Pt} (h : PtsE g ps e) (s : Sub e e') : PtsE g ps e' := fun p hp hh s1 s2 => h p hp hh (s.trans s1) s2
theorem setAt_flat (ps : List Pt) (p : Pt) (v : Value) : setAt ((ps ++ [p]).flatMap Pt.cells) (ps.length * 2 + 1) [v] = ps.flatMap Pt.cells ++ [Vi p.at_, v] := by
  have hl := flat_len Pt.cells 2 cells2 ps
  rw [List.flatMap_append]
  simp only [setAt]
  rw [List.set_append_right _ _ (by omega), hl, Nat.add_sub_cancel_left]
  rfl
theorem add_ok {W : World} {g h : Hp} (hg : In W g) (hin : In W h) (dg : Disj h g) {b : Nat} {B : Option Addr} {m d : Nat} {L : List PB} (hh : Sep (Bk b [Vs B m d] 43) (OutR g (B, m, d) L) h) (q : Pt) (hq : q.ok g) (hL : Bd L) (hqb : Bd [q.er]) (hn : L.length ≤ 100000) :
    Ok Try.prog 103 #[.agg #[Vi q.at_, Vs q.A q.d.length q.c], Vp (some ⟨b, 0, none⟩)] W h fun r h' _ => r = .tuple #[] ∧ ∃ B' m' d', Sep (Bk b [Vs B' m' d'] 43) (OutR g (B', m', d') (addF L q.er)) h' := by
  obtain ⟨h1, h2, d12, rfl, hb1, ps, rfl, hrow⟩ := hh
  have hb : Base ⟨W, h1.un h2⟩ g := ⟨hg, dg⟩
  have hm : m = ps.length := by
    obtain ⟨_, _, _, _, hr, _⟩ := hrow
    have := hr.1
    rw [flat_len Pt.cells 2 cells2] at this
    simp only at this; omega
  subst hm
  have hq0 := hqb q.er (by simp)
  simp only [Pt.er] at hq0
  rw [List.length_map] at hn
  let R : Value → Hp → Prop := fun r h' => r = .tuple #[] ∧ ∃ B' m' d', Sep (Bk b [Vs B' m' d'] 43) (OutR g (B', m', d') (addF (ps.map Pt.er) q.er)) h'
  refine exec_ok' (P := Try.prog) a103 (fn := Try.f103) (by kernel_rfl) (args := [.raw (.agg #[Vi q.at_, Vs q.A q.d.length q.c]), .ptr 1 0]) (cs := [.none, .blk b [Vs B ps.length d] 43, .own (Sep (Row 104 2 (B, ps.length, d) (ps.flatMap Pt.cells)) (PtsE g ps)), .none]) (vs := [.agg #[Vi q.at_, Vs q.A q.d.length q.c], Vp (some ⟨b, 0, none⟩)]) rfl (by kernel_rfl) hin
    (satL_none ⟨h1, h2, d12, rfl, hb1, h2, Hp.emp, Disj.emp_right _, (Hp.un_emp _).symm, hrow, satL_none rfl⟩) (R := R) ?_
  rw [v103]
  have fin0 : ∀ {cs : List Ch} {B' : Option Addr} {m' d' : Nat} {ps' : List Pt} {xs : List Value}, addF (ps.map Pt.er) q.er = ps'.map Pt.er → xs = ps'.flatMap Pt.cells → (∀ e, PtsE g ps e → PtsE g ps' e) → cs[1]? = some (.blk b [Vs B' m' d'] 43) → cs[2]? = some (.own (Sep (Row 104 2 (B', m', d') xs) (PtsE g ps))) → Fin R [] cs := by
    intro cs B' m' d' ps' xs e1 e2 e3 c1 c2
    subst e2
    refine q_two 1 2 c1 c2 (by decide) fun g1 g2 dd s1 s2 => ⟨rfl, B', m', d', g1, g2, dd, rfl, s1, ps', e1.symm, ?_⟩
    obtain ⟨k1, k2, dk, ek, r1, r2⟩ := s2
    exact ⟨k1, k2, dk, ek, r1, e3 _ r2⟩
  have push : ∀ {b1 b2 : Nat}, addF (ps.map Pt.er) q.er = ps.map Pt.er ++ [q.er] → (hops Try.prog ⟨W, h1.un h2⟩).v oS (Builtin.append_ #[43, 43] 43 #[Vs B ps.length d, Vs (some ⟨b2, 0, none⟩) 1 1]) [Ch.blk b1 [Vi q.at_, Vs q.A q.d.length q.c] 104, Ch.blk b [Vs B ps.length d] 43, Ch.own (Sep (Row 104 2 (B, ps.length, d) (ps.flatMap Pt.cells)) (PtsE g ps)), Ch.blk b2 [Vi q.at_, Vs q.A q.d.length q.c] 104] [(2, CF.own)] fun v y => Fin R [] [Ch.blk b1 [Vi q.at_, Vs q.A q.d.length q.c] 104, Ch.blk b [Vs v.1 v.2.1 v.2.2] 43, Ch.own y.1, Ch.blk b2 [Vi q.at_, Vs q.A q.d.length q.c] 104] := by
    intro b1 b2 e
    refine v_append1 2 el43 rfl (fun h o => o) (Base.emp _) (src_chunk (rd_blkc 3 rfl) (by rfl) (by intro u hu; simp at hu; rcases hu with e | e <;> subst e <;> rfl) slc43) (by unfold maxLen; omega) (by omega) fun A' c' => ?_
    refine fin0 (ps' := ps ++ [q]) (by rw [e]; simp) (by simp [Pt.cells]) (fun e he => ptsE_app he hq) rfl rfl
  have last : ps = [] ∨ ∃ ps0 p, ps = ps0 ++ [p] := by
    rcases List.eq_nil_or_concat ps with h | ⟨l, a, h⟩
    · exact .inl h
    · exact .inr ⟨l, a, by rw [h]; simp⟩
  intro b1 k hk
  have hk2 : k = (ps.length : Int) - 1 := by rw [hk, wr_id (by omega) (by omega)]
  clear hk
  rcases last with rfl | ⟨ps0, p, rfl⟩
  · refine ⟨fun h => absurd (of_decide_eq_true h) (by rw [hk2]; simp), fun _ => ⟨fun h b2 => push ?_, fun h => ?_⟩⟩
    · have := of_decide_eq_true h
      show (if q.d.length = 0 then _ else _) = _
      rw [if_neg (by omega)]
    · have := of_decide_eq_false h
      refine fin0 (ps' := []) ?_ rfl (fun e he => he) rfl rfl
      show (if q.d.length = 0 then _ else _) = _
      rw [if_pos (by omega)]
  · have hk3 : k = (ps0.length : Int) := by rw [hk2, List.length_append]; simp
    subst hk3
    have hp0 := hL p.er (by simp)
    simp only [Pt.er] at hp0
    have hB : B ≠ none := by
      obtain ⟨_, _, _, _, hr, _⟩ := hrow
      exact hr.some (by simp)
    obtain ⟨bb, hBe⟩ : ∃ bb, B = some ⟨bb, 0, none⟩ := by
      obtain ⟨_, _, _, _, ⟨r1, r2, r3, r4⟩, _⟩ := hrow
      rcases r4 with ⟨e, _⟩ | ⟨bb, _, e, _⟩
      · simp only [List.length_append, List.length_singleton] at r2 e; omega
      · exact ⟨bb, e⟩
    have hidx : B ≠ none ∧ (0 : Int) ≤ (ps0.length : Int) ∧ (ps0.length : Int) < ((ps0 ++ [p]).length : Int) := ⟨hB, by omega, by simp; omega⟩
    have hget : (ps0 ++ [p])[ps0.length]'(by simp) = p := by simp
    have rdr : ∀ {cs : List Ch}, cs[2]? = some (.own (Sep (Row 104 2 (B, (ps0 ++ [p]).length, d) ((ps0 ++ [p]).flatMap Pt.cells)) (PtsE g (ps0 ++ [p])))) → ∀ h, satL cs h → Rd h B ((ps0 ++ [p]).flatMap Pt.cells) := fun hc => rd_chunk 2 hc fun h ⟨k1, k2, dk, ek, r1, _⟩ => by rw [ek]; exact r1.rd.left
    have eL : ∀ {P1 P2 : List PB}, addF ((ps0 ++ [p]).map Pt.er) q.er = if q.at_ ≤ p.at_ + p.d.length then (if (p.at_ + p.d.length - q.at_).toNat < q.d.length then ps0.map Pt.er ++ [(p.at_, p.d ++ q.d.drop (p.at_ + p.d.length - q.at_).toNat)] else (ps0 ++ [p]).map Pt.er) else if q.d.length = 0 then (ps0 ++ [p]).map Pt.er else (ps0 ++ [p]).map Pt.er ++ [q.er] := by
      intro _ _
      unfold addF
      simp [Pt.er]
    refine ⟨fun _ => ⟨hidx, ?_⟩, fun h => absurd (of_decide_eq_false h) (by omega)⟩
    rw [Int.toNat_natCast]
    refine ld_part (rdr rfl) ps0.length (by simp) ?_
    rw [hget]
    refine call_end p.at_ p.A p.d.length p.c (by omega) ⟨fun h => ⟨hidx, ?_⟩, fun h => ⟨fun h' b2 => push ?_, fun h' => ?_⟩⟩
    · have hle : q.at_ ≤ p.at_ + p.d.length := of_decide_eq_true h
      refine ld_part (rdr rfl) ps0.length (by simp) ?_
      rw [hget]
      refine call_end p.at_ p.A p.d.length p.c (by omega) ?_
      obtain ⟨k, hk⟩ : ∃ k : Nat, p.at_ + p.d.length - q.at_ = (k : Int) := ⟨(p.at_ + p.d.length - q.at_).toNat, by omega⟩
      have hw : wr (p.at_ + p.d.length - q.at_) = (k : Int) := by rw [wr_id (by omega) (by omega), hk]
      have hif : (if (0 : Int) > (k : Int) then (0 : Int) else (k : Int)) = (k : Int) := if_neg (by omega)
      have e1 := @eL [] []
      rw [if_pos hle, hk, Int.toNat_natCast] at e1
      rw [hw, hif]
      refine ⟨fun h' => ⟨hidx, ?_⟩, fun h' => ?_⟩
      · have hlt : k < q.d.length := by have := of_decide_eq_true h'; omega
        rw [if_pos hlt] at e1
        refine ld_data (rdr rfl) ps0.length (by simp) ⟨hidx, ?_⟩
        refine ld_data (rdr rfl) ps0.length (by simp) ⟨hidx, ?_⟩
        refine ld_data (rdr rfl) ps0.length (by simp) ?_
        rw [hget]
        have hpc : p.d.length ≤ p.c := by
          obtain ⟨k1, k2, dk, ek, r1, r2⟩ := hrow
          have d2g := (disj_un_left.1 dg).2
          exact (r2 p (by simp) (h2.un g) (by rw [ek]; exact Sub.trans (sub_right dk) (sub_left _ _)) (sub_right d2g)).2
        refine ⟨⟨by omega, by omega, by simp only; omega⟩, ⟨by omega, by omega⟩, ?_⟩
        simp only [Int.toNat_natCast, subA_zero]
        have hrd : Rd g (subA q.A q.c k 1) (bts (q.d.drop k)) := by
          have := hq.1.subA (n := q.d.length) (size := 1) (c := q.c) (by rw [bts_len]; omega) hq.2 k (by omega)
          rw [Nat.mul_one, bts_drop] at this
          exact this
        refine v_appendF 3 el30 rfl (xs := bts p.d) (fun W' h' i s ig dd => ?_) (by rw [bts_len]; omega) hb (src_base hrd (by rw [bts_len]; simp) (bts_one _) slc30) (by omega) (by unfold maxLen; omega) (by omega) fun A' c' => ⟨hidx, ?_⟩
        · obtain ⟨k1, s1, hs⟩ := satL_sub s (i := 2) rfl
          obtain ⟨j1, j2, dj, ej, r1, r2⟩ := s1
          refine ⟨h'.un g, i.un ig, (r2 p (by simp) _ ?_ (sub_right dd)).1⟩
          rw [ej] at hs
          exact Sub.trans (Sub.trans (sub_right dj) hs) (sub_left _ _)
        · have hl0 := flat_len Pt.cells 2 cells2 (ps0 ++ [p])
          refine u_store 2 (o := ps0.length * 2 + 1) rfl (fun h o => o) (by subst hBe; simp [oget, Addr.add0, Nat.add_assoc]) u30 (by kernel_rfl) (by rw [show sizeP Try.prog 30 = 1 by kernel_rfl, hl0]; simp; omega) rfl ?_
          have hset := setAt_flat ps0 p (Vs A' (p.d.length + (q.d.length - k)) c')
          intro h' s
          obtain ⟨g1, k1, d1, rfl, s1, g2, k2, d2, rfl, s2, g3, k3, d3, rfl, s3, g4, k4, d4, rfl, s4, e4⟩ := s
          obtain rfl : k4 = Hp.emp := e4
          simp only [Hp.un_emp] at *
          refine ⟨g2.un (g3.un g4), sub_right d1, rfl, B, _, d, g2, g3.un g4, d2, rfl, s2, ps0 ++ [⟨p.at_, A', c', p.d ++ q.d.drop k⟩], ?_, ?_⟩
          · rw [e1]; simp [Pt.er]
          · obtain ⟨j1, j2, dj, rfl, r1, r2⟩ := s3
            obtain ⟨d13, d23⟩ := disj_un_left.1 d3
            refine ⟨j1, j2.un g4, disj_un_right.2 ⟨dj, d13⟩, Hp.un_assoc _ _ _, ?_, ?_⟩
            · have el : (ps0 ++ [(⟨p.at_, A', c', p.d ++ q.d.drop k⟩ : Pt)]).flatMap Pt.cells = setAt ((ps0 ++ [p]).flatMap Pt.cells) (ps0.length * 2 + 1) [Vs A' (p.d.length + (q.d.length - k)) c'] := by
                rw [hset]
                simp [Pt.cells]
              rw [el]
              simp only [List.length_append, List.length_singleton] at r1 ⊢
              exact r1
            · intro p' hp' hh s1' s2'
              rcases List.mem_append.1 hp' with hm | hm
              · exact r2 p' (by simp [hm]) hh (Sub.trans (sub_left _ _) s1') s2'
              · rw [List.mem_singleton.1 hm]
                have s4' : Row 5 1 (A', p.d.length + (q.d.length - k), c') (bts p.d ++ bts (q.d.drop k)) g4 := s4
                refine ⟨?_, ?_⟩
                · rw [← bts_append] at s4'
                  exact s4'.rd.mono (Sub.trans (sub_right d23) s1')
                · have := s4'.2.1
                  simp only [List.length_append, List.length_drop] at this ⊢
                  exact this
      · have hlt : ¬ k < q.d.length := by have := of_decide_eq_false h'; omega
        rw [if_neg hlt] at e1
        exact fin0 e1 rfl (fun e he => he) rfl rfl
    · have hle : ¬ q.at_ ≤ p.at_ + p.d.length := of_decide_eq_false h
      have hn0 := of_decide_eq_true h'
      rw [@eL [] [], if_neg hle, if_neg (by omega)]
    · have hle : ¬ q.at_ ≤ p.at_ + p.d.length := of_decide_eq_false h
      have hn0 := of_decide_eq_false h'
      exact fin0 (by rw [@eL [] [], if_neg hle, if_pos (by omega)]) rfl (fun e he => he) rfl rfl
end Go.Proofs.FlowVc
