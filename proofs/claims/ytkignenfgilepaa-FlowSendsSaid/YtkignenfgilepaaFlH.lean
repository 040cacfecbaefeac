/- Contracts: a receiver's Put. -/
import Derived.Test.YtkignenfgilepaaFlG
open Go Go.SL Go.Proofs
set_option maxRecDepth 100000
set_option linter.unusedVariables false
namespace Go.Proofs.FlowVc
def lowF (nx x : Int) : Int := if nx > x then nx else x
def highF (room nx : Int) (dl : Nat) (x : Int) (n : Nat) : Int := if nx + (room - dl) < x + n then nx + (room - dl) else x + n
/-- What Put answers: how many, the error, what comes in front, the parts behind. -/
def putF (room nx : Int) (dl : Nat) (L : List PB) (x : Int) (b : List UInt8) : Int × Int × List UInt8 × List PB :=
  if x < 0 ∨ x > 1000000000 - b.length then (0, 1, [], L)
  else if lowF nx x ≥ highF room nx dl x b.length then (0, 0, [], L)
  else match mergeF L (lowF nx x, (b.take (highF room nx dl x b.length - x).toNat).drop (lowF nx x - x).toNat) with
    | [] => (0, 0, [], L)
    | q :: R => if q.1 = nx then (if R.length > 64 then (0, 7, [], L) else ((q.2.length : Int), 0, q.2, R)) else if (q :: R).length > 64 then (0, 7, [], L) else (0, 0, [], q :: R)
theorem call_room {c : Ctx} {cs : List Ch} {b : Nat} {room nx : Int} {A : Option Addr} {n cp : Nat} {B : Option Addr} {m d : Nat} (hn : cs[0]? = some (.blk b [Vi room, Vi nx, Vs A n cp, Vs B m d] 102)) {k : oI.ty → PUnit → Prop} (hk : k (wr (room - n)) pU) :
    (hops Try.prog c).call oI 21 [Vp (some ⟨b, 0, none⟩)] cs [] k :=
  call_use 0 (by kernel_rfl) hn (Base.emp _) fun W h1 h2 i1 i2 hs ig d12 d1 d2 => Ok.mono (Room_ok i1 hs) fun r h' W' _ _ ⟨hr, hk'⟩ => ⟨_, h', hr, Sub.refl _, hk', hk⟩
theorem PR.cell {A : Option Addr} {L : List PB} {e : Hp} (h : PR A L e) : ∃ ps : List Pt, ps.map Pt.er = L ∧ ps.length = L.length ∧ Rd e A (ps.flatMap Pt.cells) ∧ ∀ p ∈ ps, p.ok e := by
  obtain ⟨ps, e1, r, h⟩ := h
  exact ⟨ps, e1, by rw [← e1, List.length_map], r, h⟩
theorem fin3 {R : Value → Hp → Prop} {l : List Value} {x y z : Ch} {r : List Ch} (h : ∀ g1 g2 g3, Disj g1 (g2.un g3) → Disj g2 g3 → x.sat g1 → y.sat g2 → z.sat g3 → R (retV l) (g1.un (g2.un g3))) : Fin R l (x :: y :: z :: r) := by
  intro h' s
  obtain ⟨g1, k1, d1, rfl, s1, g2, k2, d2, rfl, s2, g3, k3, d3, rfl, s3, _⟩ := s
  obtain ⟨d12, d13⟩ := disj_un_right.1 d1
  obtain ⟨d13, d1k⟩ := disj_un_right.1 d13
  obtain ⟨d23, d2k⟩ := disj_un_right.1 d2
  refine ⟨g1.un (g2.un g3), ?_, h g1 g2 g3 (disj_un_right.2 ⟨d12, d13⟩) d23 s1 s2 s3⟩
  exact Sub.un2 (Sub.refl _) (Sub.un2 (Sub.refl _) (sub_left _ _) d2) d1
/-- The same, with where they lie. -/
def PRp (A : Option Addr) (ps : List Pt) (e : Hp) : Prop := Rd e A (ps.flatMap Pt.cells) ∧ ∀ p ∈ ps, p.ok e
theorem PRp.pr {A : Option Addr} {ps : List Pt} {e : Hp} (h : PRp A ps e) : PR A (ps.map Pt.er) e := ⟨ps, rfl, h⟩
theorem call_with {c : Ctx} {cs : List Ch} {b : Nat} {room nx : Int} {A : Option Addr} {n cp : Nat} {B : Option Addr} {m : Nat} {L : List PB} {A' : Option Addr} {n' c' : Nat} {pc : List UInt8} {low : Int}
    (e0 : cs[0]? = some (.blk b [Vi room, Vi nx, Vs A n cp, Vs B L.length m] 102)) (e2 : cs[2]? = some (.own (PR B L))) (e4 : cs[4]? = some (.own (Row 5 1 (A', n', c') (bts pc)))) (hn' : n' = pc.length) (hL : Bd L) (hpb : Bd [(low, pc)]) (hn : L.length ≤ 1000)
    {k : oS.ty → TupF [(2, .own), (4, .gone)] → Prop} (hk : ∀ A2 c2 ps, ps.map Pt.er = mergeF L (low, pc) → ps.length ≤ c2 → (0 < ps.length → A2 ≠ none) → k (A2, ps.length, c2) ((fun h => PRp A2 ps h ∧ PR B L h), pU, pU)) :
    (hops Try.prog c).n oS (callVal (.func (.func 50) #[Vp (some ⟨b, 0, none⟩)] #[]) #[.agg #[Vi low, Vs A' n' c']]) cs [(2, .own), (4, .gone)] k := by
  subst hn'
  refine n_call ?_
  refine call_sel [0, 2, 4] (by kernel_rfl) (by decide) (fun n hn => ?_) (Base.emp c) fun W1 hp hr1 ip ir sp ig1 e1 e2' e3 => ?_
  · simp only [List.mem_cons, List.not_mem_nil, or_false] at hn
    rcases hn with rfl | rfl | rfl
    · exact (List.getElem?_eq_some_iff.1 e0).1
    · exact (List.getElem?_eq_some_iff.1 e2).1
    · exact (List.getElem?_eq_some_iff.1 e4).1
  · obtain ⟨a1, k1, da, rfl, s1, a2, k2, db, rfl, s2, a3, k3, dc, rfl, s3, e5⟩ := sp
    obtain rfl : k3 = Hp.emp := e5
    rw [Hp.un_emp] at da ip ⊢
    rw [Hp.un_emp] at db
    simp only [List.getD, e0, e2, e4, Option.getD_some] at s1 s2 s3
    obtain ⟨ia, ib⟩ := (in_un da).1 ip
    have s3' : Row 5 1 (A', pc.length, c') (bts pc) a3 := s3
    have hw := with_ok (g := a2.un a3) ib ia da s1 (PR.mono s2 (sub_left _ _)) ⟨low, A', c', pc⟩ ⟨s3'.rd.mono (sub_right db), s3'.2.1⟩ hL hpb hn
    refine Ok.mono (Ok.beside (Q := fun r h' => ∃ A2 c2 ps, ps.map Pt.er = mergeF L (low, pc) ∧ ps.length ≤ c2 ∧ (0 < ps.length → A2 ≠ none) ∧ r = Vs A2 ps.length c2 ∧ Sep (Bk b [Vi room, Vi nx, Vs A n cp, Vs B L.length m] 102) (fun h => PRp A2 ps h ∧ PR B L h) h') hw da ib ?_) ?_
    · rintro r h' dd ⟨A2, n2, c2, hr2, g1, g2, d5, rfl, t1, t2⟩
      obtain ⟨dd1, dd2⟩ := disj_un_left.1 dd
      obtain ⟨hn2, hc2, ps, eps, hps⟩ := t2.pr dd2
      have hl : n2 = ps.length := by rw [hn2]; exact (congrArg List.length eps).symm.trans (List.length_map _)
      subst hl
      exact ⟨A2, c2, ps, eps, hc2, fun h0 => hps.1.some (by rw [flat_len Pt.cells 2 cells2]; omega), hr2, g1, g2.un (a2.un a3), disj_un_right.2 ⟨d5, dd1⟩, Hp.un_assoc _ _ _, t1, hps, PR.mono s2 (Sub.trans (sub_left _ _) (sub_right dd2))⟩
    · rintro r h' W2 _ _ ⟨A2, c2, ps, eps, hc2, hne, hr2, g1, g2, d5, rfl, t1, t2⟩
      refine ⟨(A2, _, c2), ((fun h => PRp A2 ps h ∧ PR B L h), pU, pU), [.blk b [Vi room, Vi nx, Vs A n cp, Vs B L.length m] 102, .own (fun h => PRp A2 ps h ∧ PR B L h), .none], g1.un g2, hr2, Sub.refl _, rfl, ⟨g1, g2, d5, rfl, t1, g2, Hp.emp, Disj.emp_right _, (Hp.un_emp _).symm, t2, satL_none rfl⟩, ?_, hk A2 c2 ps eps hc2 hne⟩
      simp only [applyF, CF.ch, setMany]
      rw [set_same e0]
theorem one3 : oneP Try.prog 3 = true := by kernel_rfl
theorem Put_ok {W : World} {g h : Hp} (hg : In W g) (hin : In W h) (dg : Disj h g) {b : Nat} {room nx : Int} {d : List UInt8} {L : List PB} (hh : RcvO b room nx d L h) (x : Int) (hx : -9223372036854775808 ≤ x ∧ x ≤ 9223372036854775807) {D : Option Addr} {cp : Nat} {s : List UInt8} (hs : Rd g D (bts s)) (hsc : s.length ≤ cp)
    (hsl : s.length ≤ 1000000) (hnx : 0 ≤ nx ∧ nx ≤ 2000000000) (hroom : 0 ≤ room ∧ room ≤ 70000) (hd : d.length ≤ 1000000) (hL : Bd L) (hn : L.length ≤ 100) :
    Ok Try.prog 16 #[Vp (some ⟨b, 0, none⟩), Vi x, Vs D s.length cp] W h fun r h' _ => r = .tuple #[Vi (putF room nx d.length L x s).1, Vi (putF room nx d.length L x s).2.1] ∧ RcvO b room (nx + (putF room nx d.length L x s).2.2.1.length) (d ++ (putF room nx d.length L x s).2.2.1) (putF room nx d.length L x s).2.2.2 h' := by
  obtain ⟨A, c, B, m, h1, h2, d12, rfl, hb1, h3, h4, d34, rfl, hrow, hpr⟩ := hh
  have hb : Base ⟨W, h1.un (h3.un h4)⟩ g := ⟨hg, dg⟩
  refine exec_ok' (P := Try.prog) a16 (fn := Try.f16) (by kernel_rfl) (args := [.ptr 0 0, .raw (Vi x), .raw (Vs D s.length cp)]) (cs := [.blk b [Vi room, Vi nx, Vs A d.length c, Vs B L.length m] 102, .own (Row 5 1 (A, d.length, c) (bts d)), .own (PR B L), .none, .none]) (vs := [Vp (some ⟨b, 0, none⟩), Vi x, Vs D s.length cp]) rfl (by kernel_rfl) hin
    ⟨h1, h3.un h4, d12, rfl, hb1, h3, h4, d34, rfl, hrow, h4, Hp.emp, Disj.emp_right _, (Hp.un_emp _).symm, hpr, satL_none (satL_none rfl)⟩
    (R := fun r h' => r = .tuple #[Vi (putF room nx d.length L x s).1, Vi (putF room nx d.length L x s).2.1] ∧ RcvO b room (nx + (putF room nx d.length L x s).2.2.1.length) (d ++ (putF room nx d.length L x s).2.2.1) (putF room nx d.length L x s).2.2.2 h') ?_
  rw [v16]
  rw [wr_id (n := 1000000000 - (s.length : Int)) (by omega) (by omega)]
  -- an end at which nothing is taken
  have fin0 : ∀ {n e : Int} {M : Hp → Prop} {r : List Ch}, putF room nx d.length L x s = (n, e, [], L) → (∀ h, M h → PR B L h) → Fin (fun r h' => r = .tuple #[Vi (putF room nx d.length L x s).1, Vi (putF room nx d.length L x s).2.1] ∧ RcvO b room (nx + (putF room nx d.length L x s).2.2.1.length) (d ++ (putF room nx d.length L x s).2.2.1) (putF room nx d.length L x s).2.2.2 h') [Vi n, Vi e] (.blk b [Vi room, Vi nx, Vs A d.length c, Vs B L.length m] 102 :: .own (Row 5 1 (A, d.length, c) (bts d)) :: .own M :: r) := by
    intro n e M r he hM
    refine fin3 fun g1 g2 g3 d1 d2 s1 s2 s3 => ?_
    rw [he]
    simp only [List.append_nil, List.length_nil, Int.natCast_zero, Int.add_zero]
    exact ⟨rfl, A, c, B, m, g1, g2.un g3, d1, rfl, s1, g2, g3, d2, rfl, s2, hM _ s3⟩
  refine ⟨rfl, fun h => ?_, fun h => ?_⟩
  · have hc : x < 0 ∨ x > 1000000000 - s.length := by simpa using h
    exact fin0 (if_pos hc) (fun h o => o)
  · have hc : ¬ (x < 0 ∨ x > 1000000000 - s.length) := by simpa using h
    refine call_room rfl ?_
    rw [wr_id (n := room - (d.length : Int)) (by omega) (by omega), wr_id (n := nx + (room - (d.length : Int))) (by omega) (by omega), wr_id (n := x + (s.length : Int)) (by omega) (by omega)]
    show (decide (lowF nx x ≥ highF room nx d.length x s.length) = true → _) ∧ (decide (lowF nx x ≥ highF room nx d.length x s.length) = false → _)
    refine ⟨fun h' => ?_, fun h' => ?_⟩
    · have hge := of_decide_eq_true h'
      exact fin0 ((if_neg hc).trans (if_pos hge)) (fun h o => o)
    · have hge := of_decide_eq_false h'
      show (0 ≤ wr (lowF nx x - x) ∧ wr (lowF nx x - x) ≤ wr (highF room nx d.length x s.length - x) ∧ wr (highF room nx d.length x s.length - x) ≤ (cp : Int)) ∧ _
      have hlow : x ≤ lowF nx x ∧ lowF nx x ≤ 2000000000 ∧ 0 ≤ lowF nx x := by unfold lowF; split <;> omega
      have hhigh : highF room nx d.length x s.length ≤ x + s.length := by unfold highF; split <;> omega
      obtain ⟨low, hlo⟩ : ∃ low, lowF nx x = low := ⟨_, rfl⟩
      obtain ⟨high, hhi⟩ : ∃ high, highF room nx d.length x s.length = high := ⟨_, rfl⟩
      have hput : putF room nx d.length L x s = (match mergeF L (low, (s.take (high - x).toNat).drop (low - x).toNat) with
          | [] => (0, 0, [], L)
          | q :: R => if q.1 = nx then (if R.length > 64 then (0, 7, [], L) else ((q.2.length : Int), 0, q.2, R)) else if (q :: R).length > 64 then (0, 7, [], L) else (0, 0, [], q :: R)) := by
        rw [← hlo, ← hhi]
        exact (if_neg hc).trans (if_neg hge)
      show _ ∧ (hops Try.prog ⟨W, h1.un (h3.un h4)⟩).call oS 49 [Vs (subA D cp (wr (lowF nx x - x)).toNat 1) ((wr (highF room nx d.length x s.length - x)).toNat - (wr (lowF nx x - x)).toNat) (cp - (wr (lowF nx x - x)).toNat)] _ [(4, .own)] fun v y => ∀ b1, (hops Try.prog ⟨W, h1.un (h3.un h4)⟩).n oS (callVal (.func (.func 50) #[Vp (some ⟨b, 0, none⟩)] #[]) #[.agg #[Vi (lowF nx x), Vs v.1 v.2.1 v.2.2]]) [_, _, _, .blk b1 [Vi (lowF nx x), Vs v.1 v.2.1 v.2.2] 104, _] _ _
      rw [hlo] at hlow hge ⊢
      rw [hhi] at hhigh hge ⊢
      obtain ⟨u, hu⟩ : ∃ u : Nat, low - x = (u : Int) := ⟨(low - x).toNat, by omega⟩
      obtain ⟨v, hv⟩ : ∃ v : Nat, high - x = (v : Int) := ⟨(high - x).toNat, by omega⟩
      rw [hu, hv, Int.toNat_natCast, Int.toNat_natCast] at hput
      rw [wr_id (n := low - x) (by omega) (by omega), wr_id (n := high - x) (by omega) (by omega), hu, hv]
      refine ⟨⟨by omega, by omega, by omega⟩, ?_⟩
      simp only [Int.toNat_natCast]
      have hpl : ((s.take v).drop u).length = v - u := by simp; omega
      have hrd : Rd g (subA D cp u 1) (bts ((s.take v).drop u)) := by
        have := (hs.take v).subA (n := v) (size := 1) (c := cp) (by simp [bts_len]; omega) (by omega) u (by omega)
        rw [Nat.mul_one, bts_take, bts_drop] at this
        exact this
      obtain ⟨pc, hpc⟩ : ∃ pc, (s.take v).drop u = pc := ⟨_, rfl⟩
      rw [hpc] at hpl hrd hput
      refine call_make 4 (by kernel_rfl) rfl hb fun W' h' i s' ig d1 => ?_
      have hcl := Clone_ok (W := W') ig (c := cp - u) hrd (fun eA => absurd eA (hrd.some (by rw [bts_len]; omega))) (by omega)
      rw [hpl] at hcl
      refine Ok.mono hcl fun r h'' W'' _ _ ⟨A', c', hr, _, ho⟩ => ⟨(A', v - u, c'), _, hr, ho, fun b1 => ?_⟩
      have hpb : Bd [(low, pc)] := (bd_one _).2 ⟨by simp only; omega, by simp only; omega⟩
      obtain ⟨hmb, hmne⟩ := mergeF_ok hpb (by simp only; omega) hL
      refine call_with rfl rfl rfl hpl.symm hL hpb (by omega) fun A2 c2 ps eps hc2 hne => ?_
      rw [← eps] at hput hmb hmne
      cases ps with
      | nil => exact absurd rfl hmne
      | cons p R =>
        have hne' := hne (by simp)
        have hp0 := hmb p.er (by simp)
        simp only [Pt.er] at hp0
        simp only [List.map_cons] at hput
        have hidx : A2 ≠ none ∧ (0 : Int) ≤ 0 ∧ (0 : Int) < ((p :: R).length : Int) := ⟨hne', by omega, by simp⟩
        have rdp : ∀ {cs : List Ch}, cs[2]? = some (.own (fun h => PRp A2 (p :: R) h ∧ PR B L h)) → ∀ h, satL cs h → Rd h A2 ((p :: R).flatMap Pt.cells) := fun hc => rd_chunk 2 hc fun h o => o.1.1
        refine ⟨hidx, ?_⟩
        refine ld_cell (k := 0) (A := A2) (xs := (p :: R).flatMap Pt.cells) (rdp rfl) one3 (p.at_ : oI.ty) rfl ⟨fun hq => ⟨hidx, ?_⟩, fun hq => ⟨fun h64 => ?_, fun h64 => ?_⟩⟩
        · have hq' : p.at_ = nx := by simpa using hq
          refine ld_data (rdp rfl) 0 (by simp) ⟨⟨by omega, by simp; omega⟩, fun h64 => ?_, fun h64 => ?_⟩
          · have h6 := of_decide_eq_true h64
            refine fin0 ?_ (fun h o => o.2)
            rw [hput, if_pos (show (Pt.er p).1 = nx from hq'), if_pos (by simp at h6 ⊢; omega)]
          · have h6 := of_decide_eq_false h64
            have e1 : putF room nx d.length L x s = ((p.d.length : Int), 0, p.d, R.map Pt.er) := by
              rw [hput, if_pos (show (Pt.er p).1 = nx from hq'), if_neg (by simp at h6 ⊢; omega)]
              rfl
            refine v_append2 1 el30 rfl (fun h o => o) (Base.emp _) (src_chunk (news := bts p.d) (m := p.d.length) (rd_chunk 2 rfl fun h o => (o.1.2 p (by simp)).1) (by rw [bts_len]; omega) (bts_one _) slc30) (by unfold maxLen; omega) (by omega) fun A3 c3 O' hO' => ?_
            refine fin3 fun g1 g2 g3 d1 d2 s1 s2 s3 => ?_
            rw [e1]
            simp only [List.getElem_cons_zero] at *
            rw [wr_id (by omega) (by omega)] at s1
            refine ⟨rfl, A3, c3, subA A2 c2 1 2, c2 - 1, g1, g2.un g3, d1, rfl, ?_, g2, g3, d2, rfl, ?_, ?_⟩
            · rw [List.length_append, List.length_map]; exact s1
            · have := hO' g2 s2
              rw [List.length_append, bts_append]
              exact this
            · refine ⟨R, rfl, ?_, fun p' hp' => s3.1.2 p' (by simp [hp'])⟩
              have := s3.1.1.subA (n := (p :: R).length) (size := 2) (c := c2) (by rw [flat_len Pt.cells 2 cells2]) hc2 1 (by simp)
              exact this
        · have hq' : ¬ p.at_ = nx := by simpa using hq
          have h6 := of_decide_eq_true h64
          refine fin0 ?_ (fun h o => o.2)
          rw [hput, if_neg (show ¬ (Pt.er p).1 = nx from hq'), if_pos (by simp at h6 ⊢; omega)]
        · have hq' : ¬ p.at_ = nx := by simpa using hq
          have h6 := of_decide_eq_false h64
          have e1 : putF room nx d.length L x s = (0, 0, [], (p :: R).map Pt.er) := by
            rw [hput, if_neg (show ¬ (Pt.er p).1 = nx from hq'), if_neg (by simp at h6 ⊢; omega)]
            rfl
          refine v_append2 1 el30 rfl (fun h o => o) (Base.emp _) (src_chunk (news := []) (m := 0) (fun h s => Rd.nil _ _) rfl (by simp) slc30) (by unfold maxLen; omega) (by omega) fun A3 c3 O' hO' => ?_
          refine fin3 fun g1 g2 g3 d1 d2 s1 s2 s3 => ?_
          rw [e1]
          rw [wr_id (by omega) (by omega)] at s1
          simp only [List.append_nil, List.length_nil, Nat.add_zero] at *
          refine ⟨rfl, A3, c3, A2, c2, g1, g2.un g3, d1, rfl, ?_, g2, g3, d2, rfl, hO' g2 s2, s3.1.pr⟩
          rw [List.length_map]; exact s1
end Go.Proofs.FlowVc
