/- Splitting again, and by more: plain laws on splitF. -/
import Derived.Test.YtocloghnfnkchaaDoorPlB
open Go Go.SL Go.Proofs
set_option maxRecDepth 100000
set_option linter.unusedVariables false
namespace Go.Proofs.SplitVc
theorem pieces_none : ∀ (f : Nat) (x : Pd) (mtu : Int) (later : ByteArray), x.data.length < f → 68 ≤ mtu → x.opts.size ≤ 40 → later.size ≤ 40 → piecesF f x mtu later = none → x.off + x.data.length > 65528 := by
  intro f
  induction f with
  | zero => intros; omega
  | succ f ih =>
    intro x mtu later hf hm ho hl h
    unfold piecesF at h
    split at h
    · omega
    · split at h
      · cases h
      · rename_i h1 h2
        have hn : ∃ n : Nat, (mtu - 20 - (x.opts.size : Int)) / 8 * 8 = (n : Int) := ⟨((mtu - 20 - (x.opts.size : Int)) / 8 * 8).toNat, by omega⟩
        obtain ⟨n, hn⟩ := hn
        rw [hn, Int.toNat_natCast] at h
        have hr := Option.map_eq_none_iff.1 h
        have := ih _ mtu later (by simp only [List.length_drop]; omega) hm hl hl hr
        simp only [List.length_drop] at this
        omega
/-- A piece that may be. -/
theorem pieces_good : ∀ (f : Nat) (x : Pd) (mtu : Int) (later : ByteArray) (l : List Pd), x.data.length < f → 68 ≤ mtu → later.size % 4 = 0 → later.size ≤ x.opts.size → x.opts.size % 4 = 0 → x.opts.size ≤ 40 →
    (∀ o, 0 ≤ o → o ≤ 65528 → withinL [x.tos, 255, x.ttl, 255, x.proto, 255, x.id, 65535, o, 65528] = true) → 0 ≤ x.off → x.off % 8 = 0 → x.src.size = 4 → x.dst.size = 4 → 20 + (x.opts.size : Int) + (x.data.length : Int) ≤ 65535 →
    piecesF f x mtu later = some l → l ≠ [] ∧ ∀ q ∈ l, checkD q = 0 ∧ 20 + (q.opts.size : Int) + (q.data.length : Int) ≤ mtu ∧ q.opts.size ≤ 40 ∧ q.data.length ≤ x.data.length := by
  intro f
  induction f with
  | zero => intros; omega
  | succ f ih =>
    intro x mtu later l hf hm hl4 hlo ho4 ho hw h0 h8 hs hd hsum h
    have good : ∀ q : Pd, q.tos = x.tos → q.ttl = x.ttl → q.proto = x.proto → q.id = x.id → q.off = x.off → q.src = x.src → q.dst = x.dst → q.opts = x.opts → q.data.length ≤ x.data.length → x.off ≤ 65528 → checkD q = 0 := by
      intro q e1 e2 e3 e4 e5 e6 e7 e8 e9 e10
      unfold checkD checkE
      simp only [e1, e2, e3, e4, e5, e6, e7, e8]
      rw [if_neg, if_neg, if_neg, if_neg]
      · rw [wr_id (n := 20 + (x.opts.size : Int)) (by omega) (by omega), wr_id (by omega) (by omega)]; omega
      · rw [Int.tmod_eq_emod_of_nonneg (by omega)]; omega
      · omega
      · rw [hw x.off h0 e10, Int.tmod_eq_emod_of_nonneg (by omega)]
        simp [h8]
    unfold piecesF at h
    split at h
    · cases h
    · rename_i hoff
      split at h
      · rename_i h2
        cases h
        refine ⟨by simp, fun q hq => ?_⟩
        rw [List.mem_singleton.1 hq]
        exact ⟨good x rfl rfl rfl rfl rfl rfl rfl rfl (Nat.le_refl _) (by omega), by omega, ho, Nat.le_refl _⟩
      · rename_i h2
        have hn : ∃ n : Nat, (mtu - 20 - (x.opts.size : Int)) / 8 * 8 = (n : Int) := ⟨((mtu - 20 - (x.opts.size : Int)) / 8 * 8).toNat, by omega⟩
        obtain ⟨n, hn⟩ := hn
        rw [hn, Int.toNat_natCast] at h
        cases hr : piecesF f { x with off := x.off + (n : Int), opts := later, data := x.data.drop n } mtu later with
        | none => rw [hr] at h; cases h
        | some r =>
          rw [hr] at h
          cases h
          have := ih { x with off := x.off + (n : Int), opts := later, data := x.data.drop n } mtu later r (by simp only [List.length_drop]; omega) hm hl4 (Nat.le_refl _) hl4 (by simp only; omega) hw (by simp only; omega) (by simp only; omega) hs hd
            (by simp only [List.length_drop]; omega) hr
          refine ⟨by simp, fun q hq => ?_⟩
          rcases List.mem_cons.1 hq with rfl | hq
          · refine ⟨good _ rfl rfl rfl rfl rfl rfl rfl rfl (by simp only [List.length_take]; omega) (by omega), ?_, ho, by simp only [List.length_take]; omega⟩
            simp only [List.length_take]; omega
          · obtain ⟨a1, a2, a3, a4⟩ := this.2 q hq
            refine ⟨a1, a2, a3, ?_⟩
            simp only [List.length_drop] at a4
            omega
/-- By a greater number no more pieces come. -/
theorem pieces_mono : ∀ (f1 : Nat) (f2 : Nat) (x1 x2 : Pd) (m1 m2 : Int) (later : ByteArray) (l1 l2 : List Pd), 68 ≤ m1 → m1 ≤ m2 → x1.opts.size = x2.opts.size → x1.opts.size ≤ 40 → later.size ≤ 40 →
    x2.data.length ≤ x1.data.length → piecesF f1 x1 m1 later = some l1 → piecesF f2 x2 m2 later = some l2 → l2.length ≤ l1.length := by
  intro f1
  induction f1 with
  | zero => intro f2 x1 x2 m1 m2 later l1 l2 _ _ _ _ _ _ h; simp [piecesF] at h
  | succ f1 ih =>
    intro f2 x1 x2 m1 m2 later l1 l2 hm hm2 ho ho40 hl hd h1 h2
    cases f2 with
    | zero => simp [piecesF] at h2
    | succ f2 =>
      unfold piecesF at h1 h2
      split at h1
      · cases h1
      · split at h2
        · cases h2
        · have hn1 : ∃ n : Nat, (m1 - 20 - (x1.opts.size : Int)) / 8 * 8 = (n : Int) := ⟨((m1 - 20 - (x1.opts.size : Int)) / 8 * 8).toNat, by omega⟩
          have hn2 : ∃ n : Nat, (m2 - 20 - (x2.opts.size : Int)) / 8 * 8 = (n : Int) := ⟨((m2 - 20 - (x2.opts.size : Int)) / 8 * 8).toNat, by omega⟩
          obtain ⟨n1, hn1⟩ := hn1
          obtain ⟨n2, hn2⟩ := hn2
          rw [hn1, Int.toNat_natCast] at h1
          rw [hn2, Int.toNat_natCast] at h2
          split at h2
          · cases h2
            split at h1
            · cases h1; simp
            · obtain ⟨r, _, e⟩ := Option.map_eq_some_iff.1 h1
              rw [← e]; simp
          · rw [if_neg (by omega)] at h1
            obtain ⟨r1, hr1, e1⟩ := Option.map_eq_some_iff.1 h1
            obtain ⟨r2, hr2, e2⟩ := Option.map_eq_some_iff.1 h2
            have := ih f2 { x1 with off := x1.off + (n1 : Int), opts := later, data := x1.data.drop n1 } { x2 with off := x2.off + (n2 : Int), opts := later, data := x2.data.drop n2 } m1 m2 later r1 r2 hm hm2 rfl hl hl (by simp only [List.length_drop]; omega) hr1 hr2
            rw [← e1, ← e2]
            simp; exact this
theorem split_same {q : Pd} {mtu : Int} (h : checkD q = 0) (hm : 68 ≤ mtu) (hs : 20 + (q.opts.size : Int) + (q.data.length : Int) ≤ mtu) : splitF q mtu = ([q], 0) := by
  unfold splitF
  rw [if_neg (by omega), if_neg (by omega), if_pos hs]
/-- What a split packet is. -/
theorem split_cases {x : Pd} {mtu : Int} (h : (splitF x mtu).2 = 0) : checkD x = 0 ∧ 68 ≤ mtu ∧
    ((20 + (x.opts.size : Int) + (x.data.length : Int) ≤ mtu ∧ (splitF x mtu).1 = [x]) ∨
     (¬ 20 + (x.opts.size : Int) + (x.data.length : Int) ≤ mtu ∧ x.df = false ∧ (laterF x.opts.data.toList).2 = 0 ∧ piecesF (x.data.length + 1) x mtu (btx (laterF x.opts.data.toList).1) = some (splitF x mtu).1)) := by
  unfold splitF at h ⊢
  split at h
  · rename_i h1; exact absurd h h1
  · rename_i h1
    split at h
    · cases h
    · rename_i h2
      refine ⟨by omega, by omega, ?_⟩
      rw [if_neg h1, if_neg h2]
      split at h
      · rename_i h3
        rw [if_pos h3]
        exact .inl ⟨h3, rfl⟩
      · rename_i h3
        split at h
        · cases h
        · rename_i h4
          split at h
          · rename_i h5; exact absurd h h5
          · rename_i h5
            rw [if_neg h3, if_neg h4, if_neg h5]
            refine .inr ⟨h3, by simpa using h4, by omega, ?_⟩
            cases hp : piecesF (x.data.length + 1) x mtu (btx (laterF x.opts.data.toList).1) with
            | none => rw [hp] at h; cases h
            | some l => rfl
theorem later_sizes {x : Pd} (h : checkD x = 0) (hd : x.data.length ≤ 1000000) : (btx (laterF x.opts.data.toList).1).size % 4 = 0 ∧ (btx (laterF x.opts.data.toList).1).size ≤ x.opts.size := by
  obtain ⟨_, h4, _⟩ := checkD_sum h hd
  rw [btx_size]
  have hs : x.opts.data.toList.length = x.opts.size := by simp
  have := laterF_size (s := x.opts.data.toList) (t := (laterF x.opts.data.toList).1) (e := (laterF x.opts.data.toList).2) rfl (by rw [hs]; exact h4)
  rw [hs] at this; exact this
theorem split_good {x : Pd} {mtu : Int} (hd : x.data.length ≤ 1000000) (h : (splitF x mtu).2 = 0) :
    (splitF x mtu).1 ≠ [] ∧ ∀ q ∈ (splitF x mtu).1, splitF q mtu = ([q], 0) ∧ q.data.length ≤ x.data.length ∧ q.opts.size ≤ 40 := by
  obtain ⟨hc, hm, hx⟩ := split_cases h
  obtain ⟨hsum, ho4, ho40, h0, h1⟩ := checkD_sum hc hd
  rcases hx with ⟨hs, hl⟩ | ⟨hs, hdf, hlt, hp⟩
  · rw [hl]
    refine ⟨by simp, fun q hq => ?_⟩
    rw [List.mem_singleton.1 hq]
    exact ⟨split_same hc hm hs, Nat.le_refl _, ho40⟩
  · obtain ⟨hl4, hlo⟩ := later_sizes hc hd
    obtain ⟨hw, h8, hs4, hd4, _⟩ := checkD_zero hc
    rw [Int.tmod_eq_emod_of_nonneg h0] at h8
    obtain ⟨hne, hg⟩ := pieces_good _ x mtu _ _ (by omega) hm hl4 hlo ho4 ho40 (fun o h1 h2 => by
      simp [withinL] at hw ⊢
      omega) h0 h8 hs4 hd4 hsum hp
    refine ⟨hne, fun q hq => ?_⟩
    obtain ⟨a1, a2, a3, a4⟩ := hg q hq
    exact ⟨split_same a1 hm a2, a4, a3⟩
/-- An error stays, or goes. -/
theorem split_err {x : Pd} {m1 m2 : Int} (hm : m1 ≤ m2) (h : (splitF x m1).2 ≠ 0) (h68 : 68 ≤ m1) : (splitF x m2).2 = (splitF x m1).2 ∨ (splitF x m2).2 = 0 := by
  by_cases hc : checkD x = 0
  · by_cases hs2 : 20 + (x.opts.size : Int) + (x.data.length : Int) ≤ m2
    · right
      rw [split_same hc (by omega) hs2]
    · have hs1 : ¬ 20 + (x.opts.size : Int) + (x.data.length : Int) ≤ m1 := by omega
      have e : ∀ m, 68 ≤ m → ¬ 20 + (x.opts.size : Int) + (x.data.length : Int) ≤ m → splitF x m = (if x.df = true then ([], 181) else if (laterF x.opts.data.toList).2 ≠ 0 then ([], (laterF x.opts.data.toList).2)
          else match piecesF (x.data.length + 1) x m (btx (laterF x.opts.data.toList).1) with | none => ([], 2) | some l => (l, 0)) := by
        intro m a b
        unfold splitF
        rw [if_neg (by omega), if_neg (by omega), if_neg b]
        rfl
      rw [e m1 h68 hs1] at h ⊢
      rw [e m2 (by omega) hs2]
      by_cases h4 : x.df = true
      · rw [if_pos h4, if_pos h4]; exact .inl rfl
      · rw [if_neg h4] at h ⊢
        rw [if_neg h4]
        by_cases h5 : (laterF x.opts.data.toList).2 ≠ 0
        · rw [if_pos h5, if_pos h5]; exact .inl rfl
        · rw [if_neg h5] at h ⊢
          rw [if_neg h5]
          cases h1 : piecesF (x.data.length + 1) x m1 (btx (laterF x.opts.data.toList).1) with
          | some l => rw [h1] at h; exact absurd rfl h
          | none =>
            cases h2 : piecesF (x.data.length + 1) x m2 (btx (laterF x.opts.data.toList).1) with
            | some l => exact .inr rfl
            | none => exact .inl rfl
  · left
    unfold splitF
    rw [if_pos hc, if_pos hc]
theorem split_more {x : Pd} {m1 m2 : Int} (hd : x.data.length ≤ 3000) (hm : m1 ≤ m2) (h : (splitF x m1).2 = 0) :
    ((splitF x m2).2 ≠ 0 → (splitF x m2).2 = 2 ∧ x.off > 60000) ∧ ((splitF x m2).2 = 0 → (splitF x m2).1.length ≤ (splitF x m1).1.length) := by
  have hne := (split_good (by omega) h).1
  obtain ⟨hc, h68, hx⟩ := split_cases h
  obtain ⟨hsum, ho4, ho40, h0, h1⟩ := checkD_sum hc (by omega)
  by_cases hs2 : 20 + (x.opts.size : Int) + (x.data.length : Int) ≤ m2
  · rw [split_same hc (by omega) hs2]
    refine ⟨fun h => absurd rfl h, fun _ => ?_⟩
    have := List.length_pos_iff.2 hne
    simp; omega
  · rcases hx with ⟨hs, _⟩ | ⟨hs, hdf, hlt, hp⟩
    · omega
    · obtain ⟨hl4, hlo⟩ := later_sizes hc (by omega)
      have e : splitF x m2 = match piecesF (x.data.length + 1) x m2 (btx (laterF x.opts.data.toList).1) with | none => ([], 2) | some l => (l, 0) := by
        unfold splitF
        rw [if_neg (by omega), if_neg (by omega), if_neg hs2, if_neg (by rw [hdf]; decide), if_neg (by omega)]
        rfl
      rw [e]
      cases h2 : piecesF (x.data.length + 1) x m2 (btx (laterF x.opts.data.toList).1) with
      | none =>
        have := pieces_none _ x m2 _ (by omega) (by omega) ho40 (by omega) h2
        exact ⟨fun _ => ⟨rfl, by omega⟩, fun h => by cases h⟩
      | some l2 =>
        exact ⟨fun h => absurd rfl h, fun _ => pieces_mono _ _ x x m1 m2 _ _ l2 h68 hm rfl ho40 (by omega) (Nat.le_refl _) hp h2⟩
end Go.Proofs.SplitVc
