/- number, Check, Clone. -/
import Derived.Test.YtocloghnfnkchaaDoorSpB
import Derived.Test.YtocloghnfnkchaaDoorAs
import Derived.Test.YtocloghnfnkchaaDoorVcB
import Derived.Test.YtocloghnfnkchaaDoorUse
open Go Go.SL Go.Proofs
set_option maxRecDepth 100000
set_option linter.unusedVariables false
namespace Go.Proofs.SplitVc
/-- errors.errorType is laid. -/
def Laid (g : Hp) : Prop := ∃ cs T fz, g 0 = some (.cells cs T fz) ∧ cs[0]? = some (.iface 95 (.agg #[.pointer (some ⟨2, 43, none⟩)]))
theorem Laid.cell {g : Hp} (l : Laid g) {W : World} (i : In W g) : W.cell? ⟨0, 0, none⟩ = some (.iface 95 (.agg #[.pointer (some ⟨2, 43, none⟩)])) := by
  obtain ⟨cs, T, fz, hg, hc⟩ := l
  simp only [World.cell?, i _ _ hg]
  simpa using hc
theorem Laid.mono {g h : Hp} (l : Laid g) (s : Sub g h) : Laid h := by
  obtain ⟨cs, T, fz, hg, hc⟩ := l
  exact ⟨cs, T, fz, s _ _ hg, hc⟩
/-- An error that can be read. -/
def ErrRd (v : Value) (e : Int) (g : Hp) : Prop :=
  (v = .nilIface ∧ e = 0) ∨ (e ≠ 0 ∧ ∃ b s, v = .iface 56 (Vp (some ⟨b, 0, none⟩)) ∧ g b = some (.cells #[Vt s, .iface 27 (Vi e)] 58 (0, 0)))
theorem ErrIs.rd {v : Value} {e : Int} {h : Hp} (x : ErrIs v e h) : ErrRd v e h := by
  rcases x with ⟨h1, h2, h3⟩ | ⟨h1, b, s, h2, h3⟩
  · exact .inl ⟨h1, h2⟩
  · exact .inr ⟨h1, b, s, h2, by rw [h3]; simp [Hp.one]⟩
theorem ErrRd.mono {v : Value} {e : Int} {g h : Hp} (x : ErrRd v e g) (s : Sub g h) : ErrRd v e h := by
  rcases x with h1 | ⟨h1, b, t, h2, h3⟩
  · exact .inl h1
  · exact .inr ⟨h1, b, t, h2, s _ _ h3⟩
theorem step_alloc {W : World} {h : Hp} (H : In W h) (o : Obj) : In (W.alloc o) h ∧ Step W h (W.alloc o) h := by
  obtain ⟨d, i, s⟩ := step_new H o
  exact ⟨((in_un d).1 i).2, s.drop fun b hb e => hb (Hp.un_none.1 e).2⟩
theorem step_setCell {W : World} {b : Nat} {cs : List Value} {T : TypeId} (H : In W (Hp.one b (.cells cs.toArray T (0, 0)))) (v : Value) (i : Nat) :
    In (W.setCell ⟨b, i, none⟩ v) (Hp.one b (.cells (cs.set i v).toArray T (0, 0))) ∧ Step W (Hp.one b (.cells cs.toArray T (0, 0))) (W.setCell ⟨b, i, none⟩ v) (Hp.one b (.cells (cs.set i v).toArray T (0, 0))) := by
  have d : Disj (Hp.one b (.cells cs.toArray T (0, 0))) Hp.emp := Disj.emp_right _
  have hb : W.heap[b]? = some (.cells cs.toArray T (0, 0)) := H b _ (by simp [Hp.one])
  have := step_write (W := W) (o := .cells cs.toArray T (0, 0)) (o' := .cells (cs.set i v).toArray T (0, 0)) d (by rw [Hp.un_emp]; exact H) (W' := W.setCell ⟨b, i, none⟩ v) rfl rfl rfl (by
    unfold World.setCell
    simp only
    apply Array.ext_getElem?
    intro j
    rw [Array.getElem?_setIfInBounds, Array.getElem?_modify]
    by_cases e : b = j
    · subst e
      have hlt : b < W.heap.size := (Array.getElem?_eq_some_iff.1 hb).1
      rw [if_pos rfl, if_pos rfl, hb, if_pos hlt]
      simp
    · rw [if_neg e, if_neg e])
  rw [Hp.un_emp, Hp.un_emp] at this
  exact ⟨this.2.1, this.2.2⟩
theorem as_ok {W : World} {g : Hp} (hg : In W g) (hl : Laid g) {v : Value} {e : Int} (he : ErrRd v e g) {n : Nat} (old : Int) (hn : In W (Hp.one n (.cells #[Vi old] 27 (0, 0)))) :
    Ok Tryd.prog 22 #[v, .iface 60 (Vp (some ⟨n, 0, none⟩))] W (Hp.one n (.cells #[Vi old] 27 (0, 0))) fun r h' _ =>
      (e = 0 ∧ r = Vo false ∧ h' = Hp.one n (.cells #[Vi old] 27 (0, 0))) ∨ (e ≠ 0 ∧ r = Vo true ∧ h' = Hp.one n (.cells #[Vi e] 27 (0, 0))) := by
  rcases he with ⟨rfl, rfl⟩ | ⟨hne, b, s, rfl, hb⟩
  · exact Calls.mono (as_nil _ W) fun ev W' ⟨h1, h2⟩ => by subst h2; exact ⟨_, _, h1, hn, Step.refl _ _, .inl ⟨rfl, rfl, rfl⟩⟩
  · have ht0 : W.cell? ⟨n, 0, none⟩ = some (Vi old) := by simp [World.cell?, hn n (.cells #[Vi old] 27 (0, 0)) (by simp [Hp.one])]
    have hf0 : W.frozen? ⟨n, 0, none⟩ = false := frozen_none (cs := #[Vi old]) (T := 27) (hn n _ (by simp [Hp.one])) 0
    have hp1 : W.cell? ⟨b, 1, none⟩ = some (.iface 27 (Vi e)) := by simp [World.cell?, hg b _ hb]
    refine Calls.mono (as_hit b ⟨n, 0, none⟩ e (Vi old) W (hl.cell hg) ht0 hf0 hp1) fun ev W' ⟨h1, h2⟩ => ?_
    subst h2
    obtain ⟨i1, s1⟩ := step_alloc hn (.cells #[.pointer (some ⟨n, 0, none⟩)] 60)
    obtain ⟨i2, s2⟩ := step_alloc i1 (.cells #[.pointer (some ⟨2, 60, none⟩), .pointer (some ⟨W.heap.size, 0, none⟩), .int .u64 150] 77)
    obtain ⟨i3, s3⟩ := step_alloc i2 (.cells #[.pointer (some ⟨2, 60, none⟩), .pointer (some ⟨W.heap.size, 0, none⟩), .int .u64 150] 77)
    obtain ⟨i4, s4⟩ := step_alloc i3 (.cells #[.int .i64 e] 27)
    obtain ⟨i5, s5⟩ := step_setCell (cs := [Vi old]) (T := 27) i4 (Vi e) 0
    exact ⟨_, _, h1, i5, (((s1.trans s2).trans s3).trans s4).trans s5, .inr ⟨hne, rfl, rfl⟩⟩
theorem number_ok {W : World} {g : Hp} (hg : In W g) (hl : Laid g) {v : Value} {e : Int} (he : ErrRd v e g) :
    Ok Tryd.prog 16 #[v] W Hp.emp fun r h' _ => r = Vi e ∧ h' = Hp.emp := by
  have hb : Base ⟨W, Hp.emp⟩ g := ⟨hg, Disj.emp_left _⟩
  refine exec_ok' (P := Tryd.prog) b16 (fn := Tryd.f16) (by kernel_rfl) (args := [.raw v]) (cs := [.none]) (vs := [v]) rfl (by kernel_rfl) (In.emp W) (satL_none rfl) (R := fun r h' => r = Vi e ∧ h' = Hp.emp) ?_
  rw [vb16]
  intro b
  refine call_blk 0 (by kernel_rfl) rfl hb fun W1 h1 h2 i1 i2 hh ig d12 d1 d2 => ?_
  subst hh
  refine Ok.mono (as_ok ig hl he 0 i1) fun r h' W' _ _ hr => ?_
  rcases hr with ⟨h0, rfl, hh⟩ | ⟨hne, rfl, hh⟩
  · exact ⟨false, ((0 : Int), pU), rfl, hh, (fun h => by cases h), (fun _ => q_none ⟨by rw [h0]; rfl, rfl⟩)⟩
  · exact ⟨true, (e, pU), rfl, hh, (fun _ => q_none ⟨rfl, rfl⟩), (fun h => by cases h)⟩
theorem Check_ok {W : World} {g : Hp} (hg : In W g) (hl : Laid g) (p : Pk) :
    Ok Tryd.prog 11 #[p.val] W Hp.emp fun r h' _ => r = Vi (checkE p) ∧ h' = Hp.emp := by
  have hb : Base ⟨W, Hp.emp⟩ g := ⟨hg, Disj.emp_left _⟩
  refine exec_ok' (P := Tryd.prog) c11 (fn := Tryd.f11) (by kernel_rfl) (args := [.raw p.val]) (cs := [.none, .none]) (vs := [p.val]) rfl (by kernel_rfl) (In.emp W) (satL_none (satL_none rfl)) (R := fun r h' => r = Vi (checkE p) ∧ h' = Hp.emp) ?_
  rw [vb11]
  intro b
  refine call_use_make 0 1 (by kernel_rfl) rfl rfl hb fun W1 h1 h2 i1 i2 hs ig d12 d1 d2 => ?_
  refine Ok.mono (check_ok i1 hs) fun v h' W' _ _ ⟨g1, g2, dg, hsub, hs', he⟩ => ?_
  refine ⟨v, g1, g2, fun h => ErrRd v (checkE p) h, rfl, dg, hsub, hs', he.rd, ?_⟩
  refine call_use 1 (by kernel_rfl) rfl hb fun W1 h1 h2 i1 i2 hs ig d12 d1 d2 => ?_
  refine Ok.mono ((number_ok (g := h1.un g) (i1.un ig) (hl.mono (sub_right d1)) (ErrRd.mono hs (sub_left _ _))).frame (Disj.emp_left _) i1) fun v h' W' _ _ ⟨h2', e2, d2', _, _, _, hv, he⟩ => ?_
  subst hv he
  rw [Hp.emp_un] at e2
  exact ⟨checkE p, h1, rfl, by rw [e2]; exact Sub.refl _, hs, q_none ⟨rfl, rfl⟩⟩
theorem el22 : elemP Tryd.prog 22 = some (5, 1, 1, Vb 0) := by kernel_rfl
theorem slc22 : Tryd.prog.underlying 22 = some (.slice 5) := by kernel_rfl
theorem Clone_ok {W : World} {g : Hp} (hg : In W g) {A : Option Addr} {c : Nat} {d : List UInt8} (rd : Rd g A (bts d)) (hA : A = none → d = []) (hn : d.length ≤ 1000000) :
    Ok Tryd.prog 12 #[Vs A d.length c] W Hp.emp fun r h' _ => ∃ A' c', r = Vs A' d.length c' ∧ (A' = none → d = []) ∧ Row 5 1 (A', d.length, c') (bts d) h' := by
  have hb : Base ⟨W, Hp.emp⟩ g := ⟨hg, Disj.emp_left _⟩
  refine exec_ok' (P := Tryd.prog) b12 (fn := Tryd.f12) (by kernel_rfl) (args := [.raw (Vs A d.length c)]) (cs := [.none, .none]) (vs := [Vs A d.length c]) rfl (by kernel_rfl) (In.emp W) (satL_none (satL_none rfl)) (R := fun r h' => ∃ A' c', r = Vs A' d.length c' ∧ (A' = none → d = []) ∧ Row 5 1 (A', d.length, c') (bts d) h') ?_
  rw [vb12]
  refine ⟨fun h => ?_, fun h b => ?_⟩
  · have h0 : d = [] := hA (by simpa using h)
    subst h0
    exact q_none ⟨none, 0, rfl, fun _ => rfl, Row.nil _ _ _⟩
  · refine v_append0 1 el22 rfl hb (src_base rd (by rw [bts_len]; omega) (bts_one d) slc22) (by unfold maxLen; omega) (by omega) fun A' c' => ?_
    refine q_own 1 rfl fun h' (hr : Row 5 1 (A', d.length, c') (bts d) h') => ⟨A', c', rfl, ?_, hr⟩
    intro e
    subst e
    obtain ⟨h1, h2, h4, h3⟩ := hr
    rcases h3 with ⟨e1, _⟩ | ⟨b, rest, e1, _⟩
    · simp only at e1 h2
      exact List.eq_nil_of_length_eq_zero (by omega)
    · cases e1
end Go.Proofs.SplitVc
