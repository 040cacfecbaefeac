/- Contracts: flow's receiver. -/
import Derived.Test.YtkignenfgilepaaFlE
import Derived.Test.YtkignenfgilepaaFlF
open Go Go.SL Go.Proofs
set_option maxRecDepth 100000
set_option linter.unusedVariables false
namespace Go.Proofs.FlowVc
theorem addF_ne (L : List PB) (q : PB) (h : L ≠ [] ∨ q.2.length ≠ 0) : addF L q ≠ [] := by
  rcases List.eq_nil_or_concat L with e | ⟨l, a, e⟩
  · subst e
    rcases h with h | h
    · exact absurd rfl h
    · rw [addF_nil, if_neg h]; simp
  · rw [List.concat_eq_append] at e
    subst e
    rw [addF_app]
    split
    · split <;> simp
    · split <;> simp
def FoldI (p : PB) (s : List PB × Int) : Prop := Bd s.1 ∧ p.1 ≤ s.2 ∧ s.2 ≤ 2000000000 ∧ (s.1 ≠ [] ∨ s.2 < p.1 + p.2.length)
theorem piece_len {p : PB} {a q : Int} (h : p.1 ≤ a) (h1 : a < q) (h2 : a < p.1 + p.2.length) :
    ((p.2.take ((if p.1 + p.2.length < q then p.1 + p.2.length else q) - p.1).toNat).drop (a - p.1).toNat).length = ((if p.1 + p.2.length < q then p.1 + p.2.length else q) - a).toNat := by
  simp only [List.length_drop, List.length_take]
  split <;> omega
theorem stepF_inv {p : PB} {s : List PB × Int} {q : PB} (hs : FoldI p s) (hp : Bd [p]) (hq : Bd [q]) : FoldI p (stepF p s q) := by
  obtain ⟨h1, h2, h3, h4⟩ := hs
  have hp' := (bd_one _).1 hp
  have hq' := (bd_one _).1 hq
  have hb1 : Bd (stepF p s q).1 := by
    unfold stepF
    split
    · rename_i hc
      refine addF_bd (addF_bd h1 ((bd_one _).2 ⟨by simp only; omega, ?_⟩)) hq
      simp only [piece_len h2 hc.1 hc.2]
      split <;> omega
    · exact addF_bd h1 hq
  refine ⟨hb1, ?_, ?_, ?_⟩
  · simp only [stepF]; split <;> omega
  · simp only [stepF]; split <;> omega
  · rcases h4 with h4 | h4
    · left
      unfold stepF
      split
      · exact addF_ne _ _ (.inl (addF_ne _ _ (.inl h4)))
      · exact addF_ne _ _ (.inl h4)
    · by_cases hc : s.2 < q.1
      · left
        unfold stepF
        rw [if_pos ⟨hc, h4⟩]
        refine addF_ne _ _ (.inl (addF_ne _ _ (.inr ?_)))
        simp only [piece_len h2 hc h4]
        split <;> omega
      · by_cases hq0 : q.2.length = 0
        · right
          simp only [stepF]
          rw [if_neg (by omega)]
          exact h4
        · left
          unfold stepF
          exact addF_ne _ _ (.inr hq0)
theorem foldF_inv {p : PB} (hp : Bd [p]) (h0 : p.2.length ≠ 0) (L : List PB) (hL : Bd L) : FoldI p (foldF p L) := by
  have hp' := (bd_one _).1 hp
  have : ∀ (L : List PB) (s : List PB × Int), Bd L → FoldI p s → FoldI p (L.foldl (stepF p) s) := by
    intro L
    induction L with
    | nil => intro s _ h; exact h
    | cons q L ih =>
      intro s hL h
      exact ih _ (fun x hx => hL x (by simp [hx])) (stepF_inv h hp ((bd_one _).2 (hL q (by simp))))
  refine this L _ hL ⟨fun x hx => by simp at hx, by simp, by simp only; omega, .inr (by simp only; omega)⟩
theorem mergeF_ok {p : PB} (hp : Bd [p]) (h0 : p.2.length ≠ 0) {L : List PB} (hL : Bd L) : Bd (mergeF L p) ∧ mergeF L p ≠ [] := by
  obtain ⟨h1, h2, h3, h4⟩ := foldF_inv hp h0 L hL
  have hp' := (bd_one _).1 hp
  unfold mergeF
  split
  · rename_i hc
    have hl : (p.2.drop ((foldF p L).2 - p.1).toNat).length = (p.1 + p.2.length - (foldF p L).2).toNat := by simp only [List.length_drop]; omega
    refine ⟨addF_bd h1 ((bd_one _).2 ⟨by simp only; omega, by simp only [hl]; omega⟩), addF_ne _ _ (.inr (by simp only [hl]; omega))⟩
  · rename_i hc
    exact ⟨h1, h4.resolve_right hc⟩
/-- Parts that can be read. -/
def PR (A : Option Addr) (L : List PB) (e : Hp) : Prop := ∃ ps : List Pt, ps.map Pt.er = L ∧ Rd e A (ps.flatMap Pt.cells) ∧ ∀ p ∈ ps, p.ok e
theorem PR.mono {A : Option Addr} {L : List PB} {e e' : Hp} (h : PR A L e) (s : Sub e e') : PR A L e' := by
  obtain ⟨ps, e1, r, h⟩ := h
  exact ⟨ps, e1, r.mono s, fun p hp => (h p hp).mono s⟩
theorem OutR.pr {g h : Hp} {A : Option Addr} {n c : Nat} {L : List PB} (o : OutR g (A, n, c) L h) (d : Disj h g) : n = L.length ∧ n ≤ c ∧ PR A L (h.un g) := by
  obtain ⟨ps, e, h1, h2, d12, rfl, r, he⟩ := o
  have hl := r.1
  rw [flat_len Pt.cells 2 cells2] at hl
  simp only at hl
  refine ⟨by rw [← e, List.length_map]; omega, r.2.1, ps, e, r.rd.mono (Sub.trans (sub_left _ _) (sub_left _ _)), fun p hp => he p hp _ (Sub.trans (sub_right d12) (sub_left _ _)) (sub_right d)⟩
abbrev Rcb (b : Nat) (room nx : Int) (A : Option Addr) (n c : Nat) (B : Option Addr) (m d : Nat) : List Value := [Vi room, Vi nx, Vs A n c, Vs B m d]
/-- A receiver: its room, what it waits for, its bytes, its parts. -/
def RcvO (b : Nat) (room nx : Int) (d : List UInt8) (L : List PB) (h : Hp) : Prop :=
  ∃ A c B k, Sep (Bk b [Vi room, Vi nx, Vs A d.length c, Vs B L.length k] 102) (Sep (Row 5 1 (A, d.length, c) (bts d)) (PR B L)) h
theorem with_ok {W : World} {g h : Hp} (hg : In W g) (hin : In W h) (dg : Disj h g) {b : Nat} {room nx : Int} {A : Option Addr} {n c : Nat} {B : Option Addr} {d : Nat} {L : List PB} (hh : Bk b [Vi room, Vi nx, Vs A n c, Vs B L.length d] 102 h) (hB : PR B L g) (p : Pt) (hp : p.ok g) (hL : Bd L) (hpb : Bd [p.er]) (hn : L.length ≤ 1000) :
    Ok Try.prog 50 #[Vp (some ⟨b, 0, none⟩), .agg #[Vi p.at_, Vs p.A p.d.length p.c]] W h fun r h' _ => ∃ A' n' c', r = Vs A' n' c' ∧ Sep (Bk b [Vi room, Vi nx, Vs A n c, Vs B L.length d] 102) (OutR g (A', n', c') (mergeF L p.er)) h' := by
  have hb : Base ⟨W, h⟩ g := ⟨hg, dg⟩
  refine exec_ok' (P := Try.prog) a50 (fn := Try.f50) (by kernel_rfl) (args := [.ptr 1 0, .raw (.agg #[Vi p.at_, Vs p.A p.d.length p.c])]) (cs := [.none, .blk b [Vi room, Vi nx, Vs A n c, Vs B L.length d] 102, .none]) (vs := [Vp (some ⟨b, 0, none⟩), .agg #[Vi p.at_, Vs p.A p.d.length p.c]]) rfl (by kernel_rfl) hin
    (satL_none ⟨h, Hp.emp, Disj.emp_right _, (Hp.un_emp _).symm, hh, satL_none rfl⟩) (R := fun r h' => ∃ A' n' c', r = Vs A' n' c' ∧ Sep (Bk b [Vi room, Vi nx, Vs A n c, Vs B L.length d] 102) (OutR g (A', n', c') (mergeF L p.er)) h') ?_
  rw [v50]
  intro b1
  obtain ⟨ps, rfl, hr, hps⟩ := hB
  refine call_make 2 (by kernel_rfl) rfl hb fun W' h1 i1 s1 ig d1 => ?_
  rw [List.length_map]
  refine Ok.mono (merge_ok ig hr hps p hp hL hpb (by simpa using hn)) fun r h' W'' _ _ ⟨A', n', c', hr', ho⟩ => ⟨(A', n', c'), _, hr', ho, ?_⟩
  refine q_two 1 2 rfl rfl (by decide) fun g1 g2 dd s1 s2 => ⟨A', n', c', rfl, g1, g2, dd, rfl, ?_, s2⟩
  rw [List.length_map] at *
  exact s1
theorem Room_ok {W : World} {h : Hp} (hin : In W h) {b : Nat} {room nx : Int} {A : Option Addr} {n c : Nat} {B : Option Addr} {m d : Nat} (hh : Bk b [Vi room, Vi nx, Vs A n c, Vs B m d] 102 h) :
    Ok Try.prog 21 #[Vp (some ⟨b, 0, none⟩)] W h fun r h' _ => r = Vi (wr (room - n)) ∧ Bk b [Vi room, Vi nx, Vs A n c, Vs B m d] 102 h' := by
  refine exec_ok' (P := Try.prog) a21 (fn := Try.f21) (by kernel_rfl) (args := [.ptr 0 0]) (cs := [.blk b [Vi room, Vi nx, Vs A n c, Vs B m d] 102]) (vs := [Vp (some ⟨b, 0, none⟩)]) rfl (by kernel_rfl) hin
    (satL_one hh) (R := fun r h' => r = Vi (wr (room - n)) ∧ Bk b [Vi room, Vi nx, Vs A n c, Vs B m d] 102 h') ?_
  rw [v21]
  exact ⟨rfl, q_blk 0 rfl fun h' hs => ⟨rfl, hs⟩⟩
theorem Next_ok {W : World} {h : Hp} (hin : In W h) {b : Nat} {room nx : Int} {A : Option Addr} {n c : Nat} {B : Option Addr} {m d : Nat} (hh : Bk b [Vi room, Vi nx, Vs A n c, Vs B m d] 102 h) :
    Ok Try.prog 20 #[Vp (some ⟨b, 0, none⟩)] W h fun r h' _ => r = Vi nx ∧ Bk b [Vi room, Vi nx, Vs A n c, Vs B m d] 102 h' := by
  refine exec_ok' (P := Try.prog) a20 (fn := Try.f20) (by kernel_rfl) (args := [.ptr 0 0]) (cs := [.blk b [Vi room, Vi nx, Vs A n c, Vs B m d] 102]) (vs := [Vp (some ⟨b, 0, none⟩)]) rfl (by kernel_rfl) hin
    (satL_one hh) (R := fun r h' => r = Vi nx ∧ Bk b [Vi room, Vi nx, Vs A n c, Vs B m d] 102 h') ?_
  rw [v20]
  exact ⟨rfl, q_blk 0 rfl fun h' hs => ⟨rfl, hs⟩⟩
theorem PR.nil (A : Option Addr) : PR A [] Hp.emp := ⟨[], rfl, Rd.nil _ _, fun p hp => by simp at hp⟩
theorem NewReceiver_ok {W : World} (room : Int) : Ok Try.prog 13 #[Vi room] W Hp.emp fun r h' _ =>
    if 1 ≤ room ∧ room ≤ 65535 then ∃ b, r = .tuple #[Vp (some ⟨b, 0, none⟩), Vi 0] ∧ RcvO b room 0 [] [] h' else r = .tuple #[Vp none, Vi 1] ∧ h' = Hp.emp := by
  refine exec_ok' (P := Try.prog) a13 (fn := Try.f13) (by kernel_rfl) (args := [.raw (Vi room)]) (cs := [.none]) (vs := [Vi room]) rfl (by kernel_rfl) (In.emp W) (satL_none rfl)
    (R := fun r h' => if 1 ≤ room ∧ room ≤ 65535 then ∃ b, r = .tuple #[Vp (some ⟨b, 0, none⟩), Vi 0] ∧ RcvO b room 0 [] [] h' else r = .tuple #[Vp none, Vi 1] ∧ h' = Hp.emp) ?_
  rw [v13]
  refine call_read (by kernel_rfl) (Base.emp _) fun W1 h1 i1 s1 ig dg => ?_
  refine Ok.mono (may_ok room) fun r h' W' _ _ ⟨hr, _⟩ => ⟨_, hr, fun h => ?_, fun h b => ?_⟩
  · have hn : ¬ (1 ≤ room ∧ room ≤ 65535) := by simp at h; omega
    refine q_none ?_
    rw [if_neg hn]; exact ⟨rfl, rfl⟩
  · have hn : 1 ≤ room ∧ room ≤ 65535 := by simp at h; omega
    refine q_blk 0 rfl fun h' hs => ?_
    rw [if_pos hn]
    exact ⟨b, rfl, none, 0, none, 0, h', Hp.emp, Disj.emp_right _, (Hp.un_emp _).symm, hs, Hp.emp, Hp.emp, Disj.emp_right _, (Hp.un_emp _).symm, Row.nil _ _ _, PR.nil _⟩
theorem Delete_ok {W : World} {h : Hp} (hin : In W h) {A : Option Addr} {c : Nat} {d : List UInt8} (hr : Row 5 1 (A, d.length, c) (bts d) h) (k : Nat) (hk : k ≤ d.length) (hd : d.length ≤ 100000000) :
    Ok Try.prog 52 #[Vs A d.length c, Vi 0, Vi k] W h fun r h' _ => r = Vs A (d.drop k).length c ∧ Row 5 1 (A, (d.drop k).length, c) (bts (d.drop k)) h' := by
  refine exec_ok' (P := Try.prog) a52 (fn := Try.f52) (by kernel_rfl) (args := [.raw (Vs A d.length c), .raw (Vi 0), .raw (Vi k)]) (cs := [.own (Row 5 1 (A, d.length, c) (bts d))]) (vs := [Vs A d.length c, Vi 0, Vi k]) rfl (by kernel_rfl) hin
    (satL_one hr) (R := fun r h' => r = Vs A (d.drop k).length c ∧ Row 5 1 (A, (d.drop k).length, c) (bts (d.drop k)) h') ?_
  rw [v52]
  have hlc := hr.2.1
  simp only at hlc
  have hdl : (d.drop k).length = d.length - k := by simp
  refine ⟨⟨by omega, by omega, by omega, by omega⟩, fun h => ?_, fun h n hn => ⟨⟨by omega, by omega⟩, ⟨by omega, by omega⟩, ?_⟩⟩
  · have hk0 : k = 0 := by simp at h; omega
    subst hk0
    exact q_own 0 rfl fun h' o => ⟨rfl, o⟩
  · have hk0 : k ≠ 0 := by simp at h; omega
    subst hn
    simp only [Int.toNat_natCast, subA_zero]
    have hA : A ≠ none := hr.some (by omega)
    obtain ⟨a, rfl⟩ := Option.ne_none_iff_exists'.1 hA
    refine v_appendIn 0 el30 rfl (l := 0) (xs := []) (fun h o => by have := Row.trunc o (m := 0) (by omega); simpa using this) (Base.emp _)
      (src_chunk (news := bts (d.drop k)) (m := d.length - k) (fun h s => by
        have := (rd_chunk 0 rfl (fun h r => Row.rd r) h s).subA (n := d.length) (size := 1) (c := c) (by rw [bts_len]; omega) hlc k hk
        rw [Nat.mul_one, bts_drop] at this
        exact this) (by rw [bts_len, hdl]; omega) (bts_one _) slc30) (by omega) (by omega) ?_
    simp only [Nat.zero_add, List.nil_append]
    refine ⟨⟨by omega, by omega, by omega⟩, ?_⟩
    refine v_clear 0 el30 (D := Emp) (by intro u hu; have hu' : u ∈ [Vb 0] := hu; rw [List.mem_singleton.1 hu']; rfl) rfl (fun h o => Sep.ofEmp o) (.inr ?_) (by omega) ?_
    · rw [Nat.mul_one]
      simp only [subA, oget]
      rw [if_neg (by omega)]
      simp
    · refine q_own 0 rfl fun h' o => ⟨by rw [hdl]; rfl, ?_⟩
      rw [hdl]
      exact sep_emp o
/-- What Read answers, and what it leaves. -/
def readF (d : List UInt8) (n : Int) : Option Nat := if n < 0 then none else some (min n.toNat d.length)
theorem Read_ok {W : World} {h : Hp} (hin : In W h) {b : Nat} {room nx : Int} {d : List UInt8} {L : List PB} (hh : RcvO b room nx d L h) (n : Int) (hd : d.length ≤ 1000000) :
    Ok Try.prog 18 #[Vp (some ⟨b, 0, none⟩), Vi n] W h fun r h' _ => match readF d n with
      | none => r = .tuple #[Vs none 0 0, Vi 1] ∧ RcvO b room nx d L h'
      | some k => ∃ A c, r = .tuple #[Vs A (d.take k).length c, Vi 0] ∧ Sep (RcvO b room nx (d.drop k) L) (Row 5 1 (A, (d.take k).length, c) (bts (d.take k))) h' := by
  obtain ⟨A, c, B, m, h1, h2, d12, rfl, hb1, h3, h4, d34, rfl, hrow, hpr⟩ := hh
  obtain ⟨d13, d14⟩ := disj_un_right.1 d12
  rw [← Hp.un_assoc] at hin ⊢
  obtain ⟨i13, i4⟩ := (in_un (disj_un_left.2 ⟨d14, d34⟩)).1 hin
  refine Ok.beside (R := fun r h' => match readF d n with
      | none => r = .tuple #[Vs none 0 0, Vi 1] ∧ Sep (Bk b [Vi room, Vi nx, Vs A d.length c, Vs B L.length m] 102) (Row 5 1 (A, d.length, c) (bts d)) h'
      | some k => ∃ A' c', r = .tuple #[Vs A' (d.take k).length c', Vi 0] ∧ Sep (Sep (Bk b [Vi room, Vi nx, Vs A (d.drop k).length c, Vs B L.length m] 102) (Row 5 1 (A, (d.drop k).length, c) (bts (d.drop k)))) (Row 5 1 (A', (d.take k).length, c') (bts (d.take k))) h') ?_ (disj_un_left.2 ⟨d14, d34⟩) i4 ?_
  · refine exec_ok' (P := Try.prog) a18 (fn := Try.f18) (by kernel_rfl) (args := [.ptr 0 0, .raw (Vi n)]) (cs := [.blk b [Vi room, Vi nx, Vs A d.length c, Vs B L.length m] 102, .own (Row 5 1 (A, d.length, c) (bts d)), .none]) (vs := [Vp (some ⟨b, 0, none⟩), Vi n]) rfl (by kernel_rfl) i13
      ⟨h1, h3, d13, rfl, hb1, h3, Hp.emp, Disj.emp_right _, (Hp.un_emp _).symm, hrow, satL_none rfl⟩ ?_
    rw [v18]
    refine ⟨rfl, fun h => ?_, fun h x hx => ?_⟩
    · have hlt : n < 0 := of_decide_eq_true h
      have e : readF d n = none := if_pos hlt
      rw [e]
      exact q_two 0 1 rfl rfl (by decide) fun g1 g2 dd s1 s2 => ⟨rfl, g1, g2, dd, rfl, s1, s2⟩
    · have hlt : ¬ n < 0 := of_decide_eq_false h
      obtain ⟨k, hk⟩ : ∃ k, min n.toNat d.length = k := ⟨_, rfl⟩
      have e : readF d n = some k := by rw [← hk]; exact if_neg hlt
      have hxk : x = (k : Int) := by rw [hx]; split <;> omega
      have hkd : k ≤ d.length := by omega
      rw [e, hxk]
      clear hx hxk h
      have hlc := hrow.2.1
      simp only at hlc
      refine ⟨⟨by omega, by omega⟩, ?_⟩
      simp only [Int.toNat_natCast, subA_zero]
      have htl : (d.take k).length = k := by simp; omega
      have hdl : (d.drop k).length = d.length - k := by simp
      refine call_make 2 (by kernel_rfl) rfl (Base.emp _) fun W' h' i s ig dg => ?_
      have hrd : Rd h' A (bts (d.take k)) := by rw [← bts_take]; exact (rd_chunk 1 rfl (fun h r => Row.rd r) h' s).take k
      have hc := Clone_ok (W := W') i (c := c) hrd (fun eA => List.eq_nil_of_length_eq_zero (by have := hrow.isnil eA; omega)) (by omega)
      rw [htl] at hc
      refine Ok.mono hc fun r h'' W'' _ _ ⟨A', c', hr, _, ho⟩ => ⟨(A', k, c'), _, hr, ho, ?_⟩
      refine call_own 1 (by kernel_rfl) rfl (Base.emp _) fun W1 h5 h6 i5 i6 o5 _ _ _ _ => ?_
      refine Ok.mono (Delete_ok i5 o5 k hkd (by omega)) fun r h'' W'' _ _ ⟨hr, ho⟩ => ⟨(A, (d.drop k).length, c), _, hr, ho, ?_⟩
      refine q3 fun g1 g2 g3 d1 d2 s1 s2 s3 => ⟨A', c', ?_, g1.un g2, g3, disj_un_left.2 ⟨(disj_un_right.1 d1).2, d2⟩, (Hp.un_assoc _ _ _).symm, ⟨g1, g2, (disj_un_right.1 d1).1, rfl, s1, s2⟩, ?_⟩
      · rw [htl]; rfl
      · rw [htl]; exact s3
  · intro r h' dk hr
    revert hr
    cases readF d n with
    | none =>
      rintro ⟨hr, g1, g2, dd, rfl, s1, s2⟩
      obtain ⟨da, db⟩ := disj_un_left.1 dk
      exact ⟨hr, A, c, B, m, g1, g2.un h4, disj_un_right.2 ⟨dd, da⟩, Hp.un_assoc _ _ _, s1, g2, h4, db, rfl, s2, hpr⟩
    | some k =>
      rintro ⟨A', c', hr, g3, g4, d34', rfl, ⟨g1, g2, dd, rfl, s1, s2⟩, s3⟩
      obtain ⟨dk1, dk4⟩ := disj_un_left.1 dk
      obtain ⟨da, db⟩ := disj_un_left.1 dk1
      refine ⟨A', c', hr, (g1.un g2).un h4, g4, disj_un_left.2 ⟨d34', dk4.symm⟩, ?_, ⟨A, c, B, m, g1, g2.un h4, disj_un_right.2 ⟨dd, da⟩, Hp.un_assoc _ _ _, s1, g2, h4, db, rfl, s2, hpr⟩, s3⟩
      rw [Hp.un_assoc, Hp.un_comm dk4, ← Hp.un_assoc]
end Go.Proofs.FlowVc
