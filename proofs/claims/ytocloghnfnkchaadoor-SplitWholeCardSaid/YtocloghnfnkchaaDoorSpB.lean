import Derived.Test.YtocloghnfnkchaaDoorSpA
open Go Go.SL Go.Proofs
set_option maxRecDepth 100000
set_option linter.unusedVariables false
namespace Go.Proofs.SplitVc
theorem rd_blk {cs : List Ch} {h : Hp} (s : satL cs h) {i b : Nat} {cells : List Value} {T : TypeId} (hi : cs[i]? = some (.blk b cells T)) : Rd h (some ⟨b, 0, none⟩) cells := by
  obtain ⟨h1, s1, hs⟩ := satL_sub s hi
  refine .inr ⟨b, 0, cells, T, (0, 0), rfl, hs _ _ ?_, by simp, by simp⟩
  rw [show h1 = _ from s1]; simp [Hp.one]
/-- What ip4's check says. -/
def checkE (p : Pk) : Int :=
  if withinL [p.tos, 255, p.ttl, 255, p.proto, 255, p.id, 65535, p.off, 65528] = false ∨ p.off.tmod 8 ≠ 0 then 1
  else if p.src.size ≠ 4 ∨ p.dst.size ≠ 4 then 1
  else if (p.opts.size : Int).tmod 4 ≠ 0 ∨ (p.opts.size : Int) > 40 then 1
  else if wr (wr (20 + (p.opts.size : Int)) + (p.n : Int)) > 65535 then 2 else 0
/-- An error of that number. -/
def ErrIs (v : Value) (e : Int) (h : Hp) : Prop :=
  (v = .nilIface ∧ e = 0 ∧ h = Hp.emp) ∨ (e ≠ 0 ∧ ∃ b s, v = .iface 56 (Vp (some ⟨b, 0, none⟩)) ∧ h = Hp.one b (.cells #[Vt s, .iface 27 (Vi e)] 58 (0, 0)))
theorem check_ok {W : World} {b : Nat} {p : Pk} {h : Hp} (hin : In W h) (hh : (Ch.blk b p.cells 24).sat h) :
    Ok Tryd.prog 15 #[Vp (some ⟨b, 0, none⟩)] W h fun v h' _ => ∃ g1 g2, Disj g1 g2 ∧ (∀ b o, (g1.un g2) b = some o → h' b = some o) ∧ (Ch.blk b p.cells 24).sat g1 ∧ ErrIs v (checkE p) g2 := by
  have hb : Base ⟨W, h⟩ Hp.emp := Base.emp _
  refine Ok.mono (execFn_ok (P := Tryd.prog) a15 (fn := Tryd.f15) (by kernel_rfl) (args := [.ptr 5 0]) (cs := [.none, .none, .none, .none, .none, .blk b p.cells 24]) (vs := [Vp (some ⟨b, 0, none⟩)]) rfl (by kernel_rfl) hin
    (satL_none <| satL_none <| satL_none <| satL_none <| satL_none <| satL_one hh)
    (Q := fun l cs => ∃ v, l = [v] ∧ cs[5]? = some (.blk b p.cells 24) ∧ ((v = .nilIface ∧ checkE p = 0) ∨ (checkE p ≠ 0 ∧ ∃ i b2 s, i ≠ 5 ∧ v = .iface 56 (Vp (some ⟨b2, 0, none⟩)) ∧ cs[i]? = some (.blk b2 [Vt s, .iface 27 (Vi (checkE p))] 58)))) ?_) ?_
  · rw [vc15]
    intro b1
    refine call_read (by kernel_rfl) hb fun W1 h1 i1 s1 ig dg => ?_
    have rd := rd_blk (i := 0) s1 rfl
    refine Ok.mono (within_ok (g := h1) (xs := [p.tos, 255, p.ttl, 255, p.proto, 255, p.id, 65535, p.off, 65528]) i1 rd rfl (by simp) rfl (by omega)) fun v h' W' _ _ hv => ?_
    refine ⟨withinL [p.tos, 255, p.ttl, 255, p.proto, 255, p.id, 65535, p.off, 65528], hv, ?_⟩
    refine ⟨fun h => ?_, fun h => ⟨fun h2 => ?_, fun h2 => ⟨fun h3 => ?_, fun h3 => ⟨fun h4 => ?_, fun h4 => ?_⟩⟩⟩⟩
    · have c1 : checkE p = 1 := by
        unfold checkE
        rw [if_pos]
        simpa using h
      intro b2
      exact ⟨_, rfl, rfl, .inr ⟨by rw [c1]; decide, 1, b2, _, by decide, rfl, by rw [c1]; rfl⟩⟩
    · have c0 : ¬(withinL [p.tos, 255, p.ttl, 255, p.proto, 255, p.id, 65535, p.off, 65528] = false ∨ p.off.tmod 8 ≠ 0) := by simpa using h
      have c1 : checkE p = 1 := by
        unfold checkE
        rw [if_neg c0, if_pos]
        have := h2
        simp only [Bool.or_eq_true, bne_iff_ne, ne_eq] at this
        omega
      intro b2
      exact ⟨_, rfl, rfl, .inr ⟨by rw [c1]; decide, 2, b2, _, by decide, rfl, by rw [c1]; rfl⟩⟩
    · have c0 : ¬(withinL [p.tos, 255, p.ttl, 255, p.proto, 255, p.id, 65535, p.off, 65528] = false ∨ p.off.tmod 8 ≠ 0) := by simpa using h
      have c2 : ¬(p.src.size ≠ 4 ∨ p.dst.size ≠ 4) := by
        have := h2
        simp only [Bool.or_eq_false_iff, bne_eq_false_iff_eq] at this
        omega
      have c1 : checkE p = 1 := by
        unfold checkE
        rw [if_neg c0, if_neg c2, if_pos]
        simpa using h3
      intro b2
      exact ⟨_, rfl, rfl, .inr ⟨by rw [c1]; decide, 3, b2, _, by decide, rfl, by rw [c1]; rfl⟩⟩
    · have c0 : ¬(withinL [p.tos, 255, p.ttl, 255, p.proto, 255, p.id, 65535, p.off, 65528] = false ∨ p.off.tmod 8 ≠ 0) := by simpa using h
      have c2 : ¬(p.src.size ≠ 4 ∨ p.dst.size ≠ 4) := by
        have := h2
        simp only [Bool.or_eq_false_iff, bne_eq_false_iff_eq] at this
        omega
      have c3 : ¬((p.opts.size : Int).tmod 4 ≠ 0 ∨ (p.opts.size : Int) > 40) := by
        have := h3
        simp only [Bool.or_eq_false_iff, bne_eq_false_iff_eq, decide_eq_false_iff_not] at this
        rintro (h | h)
        · exact h this.1
        · exact this.2 h
      have c1 : checkE p = 2 := by
        unfold checkE
        rw [if_neg c0, if_neg c2, if_neg c3, if_pos]
        exact of_decide_eq_true h4
      intro b2
      exact ⟨_, rfl, rfl, .inr ⟨by rw [c1]; decide, 4, b2, _, by decide, rfl, by rw [c1]; rfl⟩⟩
    · have c0 : ¬(withinL [p.tos, 255, p.ttl, 255, p.proto, 255, p.id, 65535, p.off, 65528] = false ∨ p.off.tmod 8 ≠ 0) := by simpa using h
      have c2 : ¬(p.src.size ≠ 4 ∨ p.dst.size ≠ 4) := by
        have := h2
        simp only [Bool.or_eq_false_iff, bne_eq_false_iff_eq] at this
        omega
      have c3 : ¬((p.opts.size : Int).tmod 4 ≠ 0 ∨ (p.opts.size : Int) > 40) := by
        have := h3
        simp only [Bool.or_eq_false_iff, bne_eq_false_iff_eq, decide_eq_false_iff_not] at this
        rintro (h | h)
        · exact h this.1
        · exact this.2 h
      have c1 : checkE p = 0 := by
        unfold checkE
        rw [if_neg c0, if_neg c2, if_neg c3, if_neg]
        exact of_decide_eq_false h4
      exact ⟨_, rfl, rfl, .inl ⟨rfl, c1⟩⟩
  · rintro v h' W' _ _ ⟨l, cs', rfl, s, v', rfl, h5, hv⟩
    rcases hv with ⟨rfl, hc⟩ | ⟨hne, i, b2, st, hi, rfl, hcs⟩
    · obtain ⟨h1, s1, hs⟩ := satL_sub s h5
      exact ⟨h1, Hp.emp, Disj.emp_right _, by rw [Hp.un_emp]; exact hs, s1, .inl ⟨rfl, hc, rfl⟩⟩
    · obtain ⟨h1, h2, d, s1, s2, hs⟩ := satL_sub2 s h5 hcs (Ne.symm hi)
      exact ⟨h1, h2, d, hs, s1, .inr ⟨hne, b2, st, rfl, s2⟩⟩
end Go.Proofs.SplitVc
