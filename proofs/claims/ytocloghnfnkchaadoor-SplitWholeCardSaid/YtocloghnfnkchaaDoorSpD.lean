/- Options, Later. -/
import Derived.Test.YtocloghnfnkchaaDoorSpC
import Derived.Test.YtocloghnfnkchaaDoorPlA
open Go Go.SL Go.Proofs
set_option maxRecDepth 100000
set_option linter.unusedVariables false
namespace Go.Proofs.SplitVc
abbrev extC (o : UInt8 × List UInt8) : List Value := [Vi (o.1.toNat : Int), Vt (btx o.2)]
abbrev extL (l : List (UInt8 × List UInt8)) : List Value := l.flatMap extC
theorem extL_len (l : List (UInt8 × List UInt8)) : (extL l).length = l.length * 2 := by
  induction l with
  | nil => rfl
  | cons x r ih => simp only [extL, List.flatMap_cons, List.length_append, List.length_cons, List.length_nil] at ih ⊢; omega
theorem extL_snoc (l : List (UInt8 × List UInt8)) (x : UInt8 × List UInt8) : extL (l ++ [x]) = extL l ++ extC x := by simp [extL]
theorem el49 : elemP Tryd.prog 49 = some (53, 2, 24, .agg #[Vi 0, Vt ⟨#[]⟩]) := by kernel_rfl
theorem slc49 : Tryd.prog.underlying 49 = some (.slice 53) := by kernel_rfl
theorem optsL_cons (k : UInt8) (r : List UInt8) (hk0 : ¬ k = 0) (hk1 : ¬ k = 1) : optsL ((k :: r).length + 1) (k :: r) = match r with
            | [] => none
            | n :: r' => if n.toNat < 2 ∨ n.toNat > r'.length + 2 then none else (optsL (k :: r).length (r'.drop (n.toNat - 2))).map ((k, r'.take (n.toNat - 2)) :: ·) := by
  conv => lhs; unfold optsL
  simp only [if_neg hk0, if_neg hk1]
  cases r <;> rfl
theorem Options_ok {W : World} (l : List UInt8) (hl : l.length ≤ 1000000) :
    Ok Tryd.prog 19 #[Vt (btx l)] W Hp.emp fun r h' _ => match optsL (l.length + 1) l with
      | some o => ∃ A c, r = .tuple #[Vs A o.length c, Vi 0] ∧ Row 53 2 (A, o.length, c) (extL o) h'
      | none => r = .tuple #[Vs none 0 0, Vi 4] ∧ h' = Hp.emp := by
  have hb : Base ⟨W, Hp.emp⟩ Hp.emp := Base.emp _
  refine exec_ok' (P := Tryd.prog) b19 (fn := Tryd.f19) (by kernel_rfl) (args := [.raw (Vt (btx l))]) (cs := [.none, .none, .none]) (vs := [Vt (btx l)]) rfl (by kernel_rfl) (In.emp W) (satL_none (satL_none (satL_none rfl)))
    (R := fun r h' => match optsL (l.length + 1) l with
      | some o => ∃ A c, r = .tuple #[Vs A o.length c, Vi 0] ∧ Row 53 2 (A, o.length, c) (extL o) h'
      | none => r = .tuple #[Vs none 0 0, Vi 4] ∧ h' = Hp.emp) ?_
  rw [vb19]
  refine ⟨fun x y => ∃ acc l' c A, x.1 = (A, acc.length, c) ∧ x.2.1 = btx l' ∧ (∀ h, y.2.2.1 h → Row 53 2 (A, acc.length, c) (extL acc) h) ∧ (optsL (l'.length + 1) l').map (acc ++ ·) = optsL (l.length + 1) l ∧ acc.length + l'.length ≤ l.length,
    fun x y => x.2.1.size, ⟨(pU, pU, fun h => h = Hp.emp, pU), ent_gone (ent_gone (ent_ownE rfl ent_nil)), [], l, 0, none, rfl, rfl, ?_, ?_, ?_⟩, ?_⟩
  · intro h e; subst e; exact Row.nil _ _ _
  · cases optsL (l.length + 1) l <;> simp
  · simp
  · rintro ⟨⟨A, n, c⟩, s', _⟩ ⟨_, _, O, _⟩ ⟨acc, l', c', A', h1, h2, h3, h4, h5⟩
    simp only [Prod.mk.injEq] at h1 h2 h3
    obtain ⟨rfl, rfl, rfl⟩ := h1
    subst h2
    simp only [btx_size] at *
    cases l' with
    | nil =>
      refine ⟨fun h => ?_, fun h => ?_, fun h => ?_⟩
      · have := of_decide_eq_true h; simp at this
      · simp at h
      · refine q_own 2 rfl fun h' hr => ?_
        rw [← h4]
        simp only [optsL, Option.map_some, List.append_nil]
        exact ⟨A, c, rfl, h3 h' hr⟩
    | cons k r =>
      have hk : byteAt (btx (k :: r)) 0 = (k.toNat : Int) := byteAt_btx (k :: r) 0 (by simp)
      rw [hk]
      have hlen : ((k :: r).length : Int) > 0 := by simp
      refine ⟨fun h => ⟨by omega, hlen⟩, fun h => ⟨⟨by omega, hlen⟩, fun h1 b => ?_, fun h1 => ?_⟩, fun h => ?_⟩
      · have hk1 : k = 1 := by
          have := eq_of_beq h1
          have : k.toNat = 1 := by omega
          exact UInt8.toNat_inj.1 (by rw [this]; rfl)
        subst hk1
        refine v_append2 2 el49 rfl h3 hb (src_chunk (rd_blkc 0 rfl) rfl (by intro u hu; simp at hu; rcases hu with rfl | rfl <;> rfl) slc49) (by unfold maxLen; simp at h5; omega) (by simp at h5; omega) fun A' c' O' hO' => ?_
        refine ⟨⟨by omega, by omega⟩, (pU, pU, O', pU), ent_gone (ent_gone (ent_same ent_nil)), ⟨acc ++ [(1, [])], r, c', A', ?_, ?_, ?_, ?_, ?_⟩, ?_⟩
        · simp
        · show (btx (1 :: r)).extract 1 _ = _
          have := btx_rest (1 :: r) 1
          rw [btx_size] at this
          rw [this]; rfl
        · intro h o
          have := hO' h o
          rw [extL_snoc, List.length_append]
          exact this
        · rw [← h4]
          have : optsL ((1 :: r).length + 1) (1 :: r) = (optsL (r.length + 1) r).map (((1, []) : UInt8 × List UInt8) :: ·) := rfl
          rw [this]
          cases optsL (r.length + 1) r <;> simp
        · simp at h5 ⊢; omega
        · show ((btx (1 :: r)).extract 1 _).size < _
          have := btx_rest (1 :: r) 1
          rw [btx_size] at this
          rw [this, btx_size]; simp
      · have hk1 : ¬ k = 1 := by
          intro e; subst e
          simp at h1
        have hk0 : ¬ k = 0 := by
          intro e; subst e
          simp at h
        have hun := optsL_cons k r hk0 hk1
        cases r with
        | nil =>
          rw [hun] at h4
          refine ⟨fun h => ?_, fun h => ?_, fun h => ?_, fun h => ?_⟩
          · simp at h
          · simp at h
          · refine q_none ?_
            rw [← h4]
            exact ⟨rfl, rfl⟩
          · simp at h
        | cons n r' =>
          have hn : byteAt (btx (k :: n :: r')) 1 = (n.toNat : Int) := byteAt_btx (k :: n :: r') 1 (by simp)
          have hn255 : n.toNat < 256 := n.toNat_lt
          have hk255 : k.toNat < 256 := k.toNat_lt
          rw [hn, wr_id (n := (n.toNat : Int)) (by omega) (by omega), wr_id (n := (k.toNat : Int)) (by omega) (by omega)]
          have hl2 : ((k :: n :: r').length : Int) = (r'.length : Int) + 2 := by simp; omega
          rw [hun] at h4
          simp only at h4
          refine ⟨fun _ => ⟨by omega, by omega⟩, fun _ => ⟨by omega, by omega⟩, fun h => ?_, fun h => ⟨⟨by omega, by omega⟩, ⟨by omega, by omega⟩, ?_, fun b => ?_⟩⟩
          · refine q_none ?_
            rw [← h4, if_pos]
            · exact ⟨rfl, rfl⟩
            · simp only [Bool.or_eq_true, decide_eq_true_eq] at h
              omega
          · simp only [Bool.or_eq_false_iff, decide_eq_false_iff_not] at h
            refine ⟨by omega, by omega, by omega⟩
          · simp only [Bool.or_eq_false_iff, decide_eq_false_iff_not] at h
            rw [if_neg (by omega)] at h4
            simp only [Int.toNat_natCast]
            have hx : (btx (k :: n :: r')).extract 2 n.toNat = btx (r'.take (n.toNat - 2)) := by
              rw [btx_extract]
              congr 1
              obtain ⟨m, hm⟩ : ∃ m, n.toNat = m + 2 := ⟨n.toNat - 2, by omega⟩
              rw [hm]
              simp
            rw [hx]
            refine v_append2 2 el49 rfl h3 hb (src_chunk (rd_blkc 1 rfl) rfl (by intro u hu; simp at hu; rcases hu with rfl | rfl <;> rfl) slc49) (by unfold maxLen; simp at h5; omega) (by simp at h5; omega) fun A' c' O' hO' => ?_
            have hr : (btx (k :: n :: r')).extract n.toNat (k :: n :: r').length = btx (r'.drop (n.toNat - 2)) := by
              have := btx_rest (k :: n :: r') n.toNat
              rw [btx_size] at this
              rw [this]
              congr 1
              obtain ⟨m, hm⟩ : ∃ m, n.toNat = m + 2 := ⟨n.toNat - 2, by omega⟩
              rw [hm]
              simp
            rw [hr]
            refine ⟨⟨by omega, by omega⟩, ⟨by omega, by omega⟩, (pU, pU, O', pU), ent_gone (ent_gone (ent_same ent_nil)), ⟨acc ++ [(k, r'.take (n.toNat - 2))], r'.drop (n.toNat - 2), c', A', ?_, rfl, ?_, ?_, ?_⟩, ?_⟩
            · simp
            · intro h o
              have := hO' h o
              rw [extL_snoc, List.length_append]
              exact this
            · rw [← h4, optsL_fuel (k :: n :: r').length ((r'.drop (n.toNat - 2)).length + 1) _ (by simp; omega) (by omega)]
              cases optsL _ (r'.drop (n.toNat - 2)) <;> simp
            · simp at h5 ⊢; omega
            · show (btx _).size < _
              rw [btx_size]; simp; omega
      · refine q_own 2 rfl fun h' hr => ?_
        have hk0 : k = 0 := by
          simp only [Bool.and_eq_false_iff, decide_eq_false_iff_not, bne_eq_false_iff_eq] at h
          have : k.toNat = 0 := by omega
          exact UInt8.toNat_inj.1 (by rw [this]; rfl)
        subst hk0
        rw [← h4]
        have : optsL ((0 :: r).length + 1) (0 :: r) = some [] := rfl
        rw [this]
        simp only [Option.map_some, List.append_nil]
        exact ⟨A, c, rfl, h3 h' hr⟩
end Go.Proofs.SplitVc
