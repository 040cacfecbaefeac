/- Contracts: flow's example. -/
import Derived.Test.YtkignenfgilepaaFlK
import Derived.Test.YtkignenfgilepaaFlL
open Go Go.SL Go.Proofs
set_option maxRecDepth 100000
set_option linter.unusedVariables false
namespace Go.Proofs.FlowVc
theorem NextO_ok {W : World} {h : Hp} (hin : In W h) {b : Nat} {room nx : Int} {d : List UInt8} {L : List PB} (hh : RcvO b room nx d L h) :
    Ok Try.prog 20 #[Vp (some ⟨b, 0, none⟩)] W h fun r h' _ => r = Vi nx ∧ RcvO b room nx d L h' := by
  obtain ⟨A, c, B, m, h1, h2, d12, rfl, hb1, hr⟩ := hh
  obtain ⟨i1, i2⟩ := (in_un d12).1 hin
  exact Ok.beside (Next_ok i1 hb1) d12 i2 fun r h' dd ⟨hr', hk⟩ => ⟨hr', A, c, B, m, h', h2, dd, rfl, hk, hr⟩
theorem RoomO_ok {W : World} {h : Hp} (hin : In W h) {b : Nat} {room nx : Int} {d : List UInt8} {L : List PB} (hh : RcvO b room nx d L h) :
    Ok Try.prog 21 #[Vp (some ⟨b, 0, none⟩)] W h fun r h' _ => r = Vi (wr (room - d.length)) ∧ RcvO b room nx d L h' := by
  obtain ⟨A, c, B, m, h1, h2, d12, rfl, hb1, hr⟩ := hh
  obtain ⟨i1, i2⟩ := (in_un d12).1 hin
  exact Ok.beside (Room_ok i1 hb1) d12 i2 fun r h' dd ⟨hr', hk⟩ => ⟨hr', A, c, B, m, h', h2, dd, rfl, hk, hr⟩
section
variable {c : Ctx} {cs : List Ch}
theorem call_next (n : Nat) {b : Nat} {room nx : Int} {d : List UInt8} {L : List PB} {O : Hp → Prop} (hn : cs[n]? = some (.own O)) (hO : ∀ h, O h ↔ RcvO b room nx d L h) {k : oI.ty → PUnit → Prop} (hk : k nx pU) :
    (hops Try.prog c).call oI 20 [Vp (some ⟨b, 0, none⟩)] cs [] k :=
  call_use n (by kernel_rfl) hn (Base.emp c) fun W h1 h2 i1 i2 hs ig d12 d1 d2 => Ok.mono (NextO_ok i1 ((hO _).1 hs)) fun r h' W' _ _ ⟨hr, hk'⟩ => ⟨_, h', hr, Sub.refl _, (hO _).2 hk', hk⟩
theorem call_roomO (n : Nat) {b : Nat} {room nx : Int} {d : List UInt8} {L : List PB} {O : Hp → Prop} (hn : cs[n]? = some (.own O)) (hO : ∀ h, O h ↔ RcvO b room nx d L h) {k : oI.ty → PUnit → Prop} (hk : k (wr (room - d.length)) pU) :
    (hops Try.prog c).call oI 21 [Vp (some ⟨b, 0, none⟩)] cs [] k :=
  call_use n (by kernel_rfl) hn (Base.emp c) fun W h1 h2 i1 i2 hs ig d12 d1 d2 => Ok.mono (RoomO_ok i1 ((hO _).1 hs)) fun r h' W' _ _ ⟨hr, hk'⟩ => ⟨_, h', hr, Sub.refl _, (hO _).2 hk', hk⟩
theorem call_put (n m : Nat) (hne : n ≠ m) {b : Nat} {room nx : Int} {d : List UInt8} {L : List PB} {O : Hp → Prop} {y : Ch} (hn : cs[n]? = some (.own O)) (hO : ∀ h, O h → RcvO b room nx d L h) (hm : cs[m]? = some y) {D : Option Addr} {cp l : Nat} {s : List UInt8} (hD : ∀ h, y.sat h → Rd h D (bts s)) (hl : l = s.length) (hsc : s.length ≤ cp)
    (x : Int) (hx : -9223372036854775808 ≤ x ∧ x ≤ 9223372036854775807) (hsl : s.length ≤ 1000000) (hnx : 0 ≤ nx ∧ nx ≤ 2000000000) (hroom : 0 ≤ room ∧ room ≤ 70000) (hd : d.length ≤ 1000000) (hL : Bd L) (hLn : L.length ≤ 100)
    {a e nx' : Int} {fr d' : List UInt8} {L' : List PB} (hres : putF room nx d.length L x s = (a, e, fr, L')) (hnx' : nx + fr.length = nx') (hd' : d ++ fr = d')
    {k : (OS.tup [TS.one (Sc.int .i64), TS.one (Sc.int .i64)]).ty → TupF [(n, .own)] → Prop} (hk : k (a, e, pU) (RcvO b room nx' d' L', pU)) :
    (hops Try.prog c).call (OS.tup [TS.one (Sc.int .i64), TS.one (Sc.int .i64)]) 16 [Vp (some ⟨b, 0, none⟩), Vi x, Vs D l cp] cs [(n, .own)] k := by
  subst hl hnx' hd'
  refine call_ownR n m (by kernel_rfl) hn hm hne (Base.emp c) fun W h1 h2 i1 i2 o1 s2 ig d12 d1 d2 => ?_
  exact Ok.mono (Put_ok i2 i1 d12 (hO _ o1) x hx (hD _ s2) hsc hsl hnx hroom hd hL hLn) fun r h' W' _ _ ⟨hr, ho⟩ => ⟨(a, e, pU), _, by rw [hr, hres]; rfl, by rw [hres] at ho; exact ho, hk⟩
theorem call_parts (n m : Nat) {b : Nat} {room nx : Int} {d : List UInt8} {L : List PB} {O : Hp → Prop} (hn : cs[n]? = some (.own O)) (hO : ∀ h, O h ↔ RcvO b room nx d L h) (hm : cs[m]? = some .none) (hs : SrtL L) (hLn : L.length ≤ 12) (hl : ∀ p ∈ L, p.2.length ≤ 1000000)
    {k : oS.ty → TupF [(m, .own)] → Prop} (hk : ∀ A cp ps, ps.map Pt.er = L → k (A, ps.length, cp) (PRp A ps, pU)) :
    (hops Try.prog c).call oS 24 [Vp (some ⟨b, 0, none⟩)] cs [(m, .own)] k := by
  refine call_use_make n m (by kernel_rfl) hn hm (Base.emp c) fun W h1 h2 i1 i2 hs' ig d12 d1 d2 => ?_
  refine Ok.mono (Parts_ok i1 ((hO _).1 hs') hs hLn hl) fun r h' W' _ _ ⟨A, cp, hr, g1, g2, dd, e, t1, ps, ep, t2⟩ => ?_
  subst ep
  rw [List.length_map] at hr
  exact ⟨(A, ps.length, cp), g1, g2, PRp A ps, hr, dd, by rw [e]; exact Sub.refl _, (hO _).2 t1, t2, hk A cp ps rfl⟩
end
/-- A text's bytes. -/
theorem rdm {b : Nat} {l : List UInt8} {fz : Nat × Nat} : ∀ h, Ch.sat (.own fun h => h = Hp.one b (.cells (bts l).toArray 5 fz)) h → Rd h (some ⟨b, 0, none⟩) (bts l) := fun h e => by
  rw [show h = _ from e]; exact rd_marked
set_option maxHeartbeats 2000000 in
theorem awake_ok {W : World} : Ok Try.prog 14 #[] W Hp.emp fun r h' _ => r = Vo true := by
  refine exec_ok' (P := Try.prog) a14 (fn := Try.f14) (by kernel_rfl) (args := []) (cs := [.none, .none, .none, .none, .none, .none, .none, .none, .none, .none]) (vs := []) rfl (by kernel_rfl) (In.emp W) (satL_none (satL_none (satL_none (satL_none (satL_none (satL_none (satL_none (satL_none (satL_none (satL_none rfl)))))))))) (R := fun r h' => r = Vo true) ?_
  rw [v14]
  have p1 : putF 10 0 0 [] 3 [100, 101, 102] = (0, 0, [], [(3, [100, 101, 102])]) := by kernel_rfl
  have p2 : putF 10 0 0 [(3, [100, 101, 102])] 0 [97, 98, 99, 100] = (6, 0, [97, 98, 99, 100, 101, 102], []) := by kernel_rfl
  refine call_make 0 (by kernel_rfl) rfl (Base.emp _) fun W1 h1 i1 s1 ig dg => Ok.mono (NewReceiver_ok 10) fun r h' W' _ _ hr => ?_
  rw [if_pos (by omega)] at hr
  obtain ⟨b, hr, ho⟩ := hr
  refine ⟨(some ⟨b, 0, none⟩, 0, pU), _, hr, ho, ?_⟩
  refine call_make 1 (by kernel_rfl) rfl (Base.emp _) fun W1 h1 i1 s1 ig dg => Ok.mono (NewSender_ok 4) fun r h' W' _ _ hr => ?_
  rw [if_pos (by omega)] at hr
  obtain ⟨bs, hr, ho⟩ := hr
  refine ⟨(some ⟨bs, 0, none⟩, 0, pU), _, hr, ho, rfl, fun b2 => ?_⟩
  refine v_conv 2 slc30 u5 rfl ?_
  refine call_put 0 2 (by decide) rfl (fun h o => o) rfl (s := [100, 101, 102]) rdm rfl (Nat.le_refl 3) 3 (by omega) (by decide) (by omega) (by omega) (by decide) (fun p hp => by simp at hp) (by decide) p1 (nx' := 0) (d' := []) rfl rfl ?_
  refine call_parts 0 7 rfl (fun h => Iff.rfl) rfl (fun i h => absurd h (by simp)) (by decide) (fun p hp => by rw [List.mem_singleton.1 hp]; decide) fun A cp ps eps => ?_
  refine fun b3 => v_conv 3 slc30 u5 rfl ?_
  have hb3 : Bd [((3 : Int), ([100, 101, 102] : List UInt8))] := (bd_one _).2 (by simp)
  refine call_put 0 3 (by decide) rfl (fun h o => o) rfl (s := [97, 98, 99, 100]) rdm rfl (Nat.le_refl 4) 0 (by omega) (by decide) (by simp) (by omega) (by decide) hb3 (by decide) p2 (nx' := 6) (d' := [97, 98, 99, 100, 101, 102]) rfl rfl ?_
  refine call_next 0 rfl (fun h => Iff.rfl) ?_
  refine call_own_make 0 8 (by kernel_rfl) rfl rfl (by decide) (Base.emp _) fun W1 h1 i1 o1 _ _ => Ok.mono (Read_ok i1 o1 9 (by decide)) fun r h' W' _ _ hr => ?_
  rw [show readF ([97, 98, 99, 100, 101, 102] : List UInt8) 9 = some 6 from by kernel_rfl] at hr
  obtain ⟨A2, c2, hr, hsep⟩ := hr
  refine ⟨((A2, 6, c2), 0, pU), _, _, hr, hsep, fun b4 => ?_⟩
  refine v_conv 4 slc30 u5 rfl ?_
  refine call_ownR 1 4 (by kernel_rfl) rfl rfl (by decide) (Base.emp _) fun W1 h1 h2 i1 i2 o1 s2 _ d1 _ _ => Ok.mono (Write_ok i2 i1 d1 o1 (by decide) (by omega) (s := [97, 98, 99, 100, 101, 102]) (rdm _ s2) (Nat.le_refl 6) (by decide)) fun r h' W' _ _ ⟨hr, ho⟩ => ?_
  refine ⟨(4, 0, pU), _, hr, ho, ?_⟩
  refine call_use_make 1 9 (by kernel_rfl) rfl rfl (Base.emp _) fun W1 h1 h2 i1 i2 hs' ig d12 d1 d2 => ?_
  refine Ok.mono (Peek_ok i1 hs' (by omega) (by decide) 1 9 (by omega)) fun r h' W' _ _ ⟨A3, c3, hr, g1, g2, dd, e, t1, t2⟩ => ?_
  rw [show peekF 0 (([] : List UInt8) ++ List.take (min ([97, 98, 99, 100, 101, 102] : List UInt8).length (4 - (([] : List UInt8).length : Int)).toNat) [97, 98, 99, 100, 101, 102]) 1 9 = ([98, 99, 100], 0) from by kernel_rfl] at hr t2
  refine ⟨((A3, 3, c3), 0, pU), g1, g2, Row 5 1 (A3, 3, c3) (bts [98, 99, 100]), hr, dd, by rw [e]; exact Sub.refl _, t1, t2, ?_⟩
  refine ⟨fun _ b5 => v_conv 5 slc30 u5 rfl fun b6 => ?_, fun h => by cases h⟩
  refine call_read (by kernel_rfl) (Base.emp _) fun W1 h1 i1 s1 _ _ => ?_
  have q1 : PRp A ps h1 := by
    obtain ⟨k1, s2, hsub⟩ := satL_sub s1 (i := 7) rfl
    exact ⟨s2.1.mono hsub, fun p hp => (s2.2 p hp).mono hsub⟩
  have q2 : PRp (some ⟨b6, 0, none⟩) [⟨3, some ⟨b5, 0, none⟩, 3, [100, 101, 102]⟩] h1 := by
    refine ⟨rd_blkc 6 rfl h1 s1, fun p hp => ?_⟩
    rw [List.mem_singleton.1 hp]
    obtain ⟨k1, s2, hsub⟩ := satL_sub s1 (i := 5) rfl
    exact ⟨(rdm _ s2).mono hsub, Nat.le_refl 3⟩
  have hpl : ps.length = 1 := by simpa using congrArg List.length eps
  have hsame := Same_ok (W := W1) (c := cp) (d := 1) i1 q1 q2 (by omega) (Nat.le_of_ble_eq_true rfl)
  refine Ok.mono hsame fun r h' W' _ _ hr => ⟨true, ?_, ?_⟩
  · rw [hr]; exact congrArg Vo (decide_eq_true eps)
  refine ⟨fun _ => ?_, fun h => by cases h⟩
  refine v_strC (l := [97, 98, 99, 100, 101, 102]) (rd_chunk 8 rfl fun h r => Row.rd r) slc30 u5 u9 rfl ⟨fun _ => ?_, fun h => ?_⟩
  · refine call_roomO 0 rfl (fun h => Iff.rfl) ⟨fun _ => ?_, fun h => by cases h⟩
    refine v_strC (l := [98, 99, 100]) (rd_chunk 9 rfl fun h r => Row.rd r) slc30 u5 u9 rfl (q_none ?_)
    show Vo ((btx [98, 99, 100]).toList == (btx [98, 99, 100]).toList) = Vo true
    simp
  · exfalso
    change ((btx [97, 98, 99, 100, 101, 102]).toList == (btx [97, 98, 99, 100, 101, 102]).toList) = false at h
    simp at h
end Go.Proofs.FlowVc
