/- FlowKeeps: what is peeked was written. -/
import Derived.Test.YtkignenfgilepaaFlO
import Derived.Test.YtkignenfgilepaaFlQ
open Go Go.SL Go.Proofs
set_option maxRecDepth 100000
set_option linter.unusedVariables false
namespace Go.Proofs.FlowVc
/-- A row of bytes as it lies. -/
structure Bx where
  A : Option Addr
  c : Nat
  d : List UInt8
def Bx.cell (x : Bx) : Value := Vs x.A x.d.length x.c
def Bx.ok (h : Hp) (x : Bx) : Prop := Rd h x.A (bts x.d) ∧ x.d.length ≤ x.c
theorem Ends_call {c : Ctx} {cs : List Ch} (n : Nat) {b : Nat} {room first : Int} {d : List UInt8} (hn : cs[n]? = some (.own (SndO b room first d))) (hf : 0 ≤ first ∧ first ≤ 4611686018427387904) (hd : d.length ≤ 100000000)
    {k : (OS.tup [TS.one (Sc.int .i64), TS.one (Sc.int .i64)]).ty → PUnit → Prop} (hk : k (first, first + d.length, pU) pU) :
    (hops Try.prog c).call (OS.tup [TS.one (Sc.int .i64), TS.one (Sc.int .i64)]) 33 [Vp (some ⟨b, 0, none⟩)] cs [] k :=
  call_use n (by kernel_rfl) hn (Base.emp c) fun W h1 h2 i1 i2 hs ig d12 d1 d2 => Ok.mono (Ends_ok i1 hs hf hd) fun r h' W' _ _ ⟨hr, hk'⟩ => ⟨(first, first + d.length, pU), h', hr, Sub.refl _, hk', hk⟩
theorem flowKeeps_ok {W : World} {g : Hp} (hg : In W g) (room : Int) {A : Option Addr} {c : Nat} (rs : List Bx) (hA : Rd g A (rs.map Bx.cell)) (hrs : ∀ x ∈ rs, x.ok g) {B : Option Addr} {d : Nat} (ds : List Int) (hB : Rd g B (ds.map Vi)) (hds : ∀ x ∈ ds, -9223372036854775808 ≤ x ∧ x ≤ 9223372036854775807) :
    Ok Try.prog 6 #[Vi room, Vs A rs.length c, Vs B ds.length d] W Hp.emp fun r h' _ => r = Vo true ∧ h' = Hp.emp := by
  have hb : Base ⟨W, Hp.emp⟩ g := ⟨hg, Disj.emp_left _⟩
  refine exec_ok' (P := Try.prog) a6 (fn := Try.f6) (by kernel_rfl) (args := [.raw (Vi room), .raw (Vs A rs.length c), .raw (Vs B ds.length d)]) (cs := [.none, .none, .none]) (vs := [Vi room, Vs A rs.length c, Vs B ds.length d]) rfl (by kernel_rfl) (In.emp W) (satL_none (satL_none (satL_none rfl))) (R := fun r h' => r = Vo true ∧ h' = Hp.emp) ?_
  rw [v6]
  refine call_make 0 (by kernel_rfl) rfl (Base.emp _) fun W1 h1 i1 s1 ig dg => Ok.mono (NewSender_ok room) fun r h' W' _ _ hr => ?_
  by_cases hroom : 1 ≤ room ∧ room ≤ 65535
  rotate_left
  · rw [if_neg hroom] at hr
    refine ⟨(none, 1, pU), fun h => h = Hp.emp, hr.1, hr.2, fun _ => ?_, fun h => ?_⟩
    · refine call_read (by kernel_rfl) (Base.emp _) fun W1 h1 i1 s1 ig dg => Ok.mono awake_ok fun r h' W' _ _ hr => ⟨true, hr, q_none ⟨rfl, rfl⟩⟩
    · simp at h
  rw [if_pos hroom] at hr
  obtain ⟨b, hr, ho⟩ := hr
  refine ⟨(some ⟨b, 0, none⟩, 0, pU), SndO b room 0 [], hr, ho, fun h => ?_, fun h => ?_⟩
  · refine call_read (by kernel_rfl) (Base.emp _) fun W1 h1 i1 s1 ig dg => Ok.mono awake_ok fun r h' W' _ _ hr => ⟨true, hr, q_none ⟨rfl, rfl⟩⟩
  have hn40 : rs.length ≤ 40 := by
    simp at h
    omega
  clear h
  refine ⟨fun x y => ∃ (i : Nat) (all : List UInt8) (first : Nat) (A' : Option Addr) (c' : Nat), i ≤ rs.length ∧ x = ((A', all.length, c'), (i : Int), pU) ∧ y.1 = SndO b room first (all.drop first) ∧ (∀ h, y.2.1 h → Row 5 1 (A', all.length, c') (bts all) h) ∧ all.length ≤ 300 * i ∧ first ≤ all.length ∧ ((all.drop first).length : Int) ≤ room,
    fun x y => rs.length - x.2.1.toNat, ⟨(SndO b room 0 [], fun h => h = Hp.emp, pU, pU), ent_same (ent_ownE rfl (ent_same ent_nil)), 0, [], 0, none, 0, by omega, rfl, rfl, fun h e => ?_, by simp, by simp, ?_⟩, ?_⟩
  · rw [e]; exact Row.nil _ _ _
  · simp; omega
  rintro x ⟨O1, O2, _, _⟩ ⟨i, all, first, A', c', hi, rfl, hO1, hO2, hal, hfa, hdr⟩
  simp only at hO1 hO2
  subst hO1
  refine ⟨fun h => ?_, fun h => ?_⟩
  rotate_left
  · refine call_read (by kernel_rfl) (Base.emp _) fun W1 h1 i1 s1 ig dg => Ok.mono awake_ok fun r h' W' _ _ hr => ⟨true, hr, q_none ⟨rfl, rfl⟩⟩
  have hlt : i < rs.length := by have := of_decide_eq_true h; simp only at this; omega
  clear h
  obtain ⟨s, hs⟩ : ∃ s, rs[i] = s := ⟨_, rfl⟩
  have hsk : s.ok g := hrs s (by rw [← hs]; exact List.getElem_mem hlt)
  have hne : A ≠ none := hA.some (by rw [List.length_map]; omega)
  have hidx : A ≠ none ∧ (0 : Int) ≤ (i : Int) ∧ (i : Int) < (rs.length : Int) := ⟨hne, by omega, by omega⟩
  have hcell : (rs.map Bx.cell)[i * 1]? = some (oS.val (s.A, s.d.length, s.c)) := by
    rw [Nat.mul_one, List.getElem?_map, List.getElem?_eq_getElem hlt, hs]; rfl
  simp only
  rw [Int.toNat_natCast]
  refine ⟨hidx, ldB_cell hb hA one30 (s.A, s.d.length, s.c) hcell ⟨fun h => q_none ⟨rfl, rfl⟩, fun h => ⟨hidx, ldB_cell hb hA one30 (s.A, s.d.length, s.c) hcell ?_⟩⟩⟩
  have hs3 : s.d.length ≤ 300 := by have := of_decide_eq_false h; simp only at this; omega
  clear h
  have hdl : (all.drop first).length = all.length - first := by simp
  refine call_own 0 (by kernel_rfl) rfl hb fun W1 h1 h2 i1 i2 o1 ig d12 d1 d2 => Ok.mono (Write_ok ig i1 d1 o1 (by omega) (by omega) hsk.1 hsk.2 (by omega)) fun r h' W' _ _ ⟨hr, ho⟩ => ?_
  obtain ⟨k, hk⟩ : ∃ k, min s.d.length (room - ((all.drop first).length : Int)).toNat = k := ⟨_, rfl⟩
  rw [hk] at hr ho
  refine ⟨((k : Int), 0, pU), _, hr, ho, fun h => absurd h (by simp), fun _ => ⟨hidx, ldB_cell hb hA one30 (s.A, s.d.length, s.c) hcell ⟨fun h => absurd (of_decide_eq_true h) (by simp only; omega), fun _ => ⟨hidx, ldB_cell hb hA one30 (s.A, s.d.length, s.c) hcell ?_⟩⟩⟩⟩
  have hsc := hsk.2
  refine ⟨⟨by simp only; omega, by simp only; omega⟩, ?_⟩
  simp only [Int.toNat_natCast, subA_zero]
  have htl : (s.d.take k).length = k := by simp; omega
  refine v_append2 1 el30 rfl hO2 hb (src_base (news := bts (s.d.take k)) (by rw [← bts_take]; exact hsk.1.take k) (by rw [bts_len, htl]; omega) (bts_one _) slc30) (by unfold maxLen; omega) (by omega) fun A2 c2 O' hO' => ?_
  have hall : (all ++ s.d.take k).length = all.length + k := by rw [List.length_append, htl]
  have hdd : all.drop first ++ s.d.take k = (all ++ s.d.take k).drop first := by rw [List.drop_append_of_le_length hfa]
  rw [hdd] at ho ⊢
  have hO3 : ∀ h, O' h → Row 5 1 (A2, (all ++ s.d.take k).length, c2) (bts (all ++ s.d.take k)) h := fun h o => by
    rw [hall, bts_append]; exact hO' h o
  rw [← hall]
  generalize hae : all ++ s.d.take k = all' at *
  have hdl' : (all'.drop first).length = all'.length - first := by simp
  refine Ends_call 0 rfl ⟨by omega, by omega⟩ (by omega) ?_
  have hfe : (first : Int) + ((all'.drop first).length : Int) = (all'.length : Int) := by omega
  rw [hfe]
  have hw : wr ((all'.length : Int) - (first : Int)) = ((all'.drop first).length : Int) := by rw [wr_id (by omega) (by omega)]; omega
  simp only [hw]
  refine ⟨fun h => ?_, fun _ => ⟨hidx, ldB_cell hb hA one30 (s.A, s.d.length, s.c) hcell ⟨fun h => ?_, fun _ => ?_⟩⟩⟩
  · simp at h; omega
  · exfalso; simp at h; omega
  refine call_use_make 0 2 (by kernel_rfl) rfl rfl (Base.emp _) fun W1 h1 h2 i1 i2 hs' ig d12 d1 d2 => ?_
  have hpk : peekF (first : Int) (all'.drop first) (first : Int) ((all'.drop first).length : Int) = (all'.drop first, 0) := by
    unfold peekF
    rw [if_pos (by omega), if_neg (by omega), Int.sub_self]
    simp only [Int.toNat_zero, List.drop_zero, Int.toNat_natCast, List.take_length]
  have hpeek := Peek_ok i1 hs' (by omega) (by omega) (first : Int) ((all'.drop first).length : Int) (by omega)
  rw [hpk] at hpeek
  refine Ok.mono hpeek fun r h' W' _ _ ⟨A3, c3, hr, g1, g2, dd, e, t1, t2⟩ => ?_
  refine ⟨((A3, (all'.drop first).length, c3), 0, pU), g1, g2, Row 5 1 (A3, (all'.drop first).length, c3) (bts (all'.drop first)), hr, dd, by rw [e]; exact Sub.refl _, t1, t2, fun h => absurd h (by simp), fun _ => ?_⟩
  refine ld_str (l := all'.drop first) (rd_chunk 2 rfl fun h r => Row.rd r) slc30 u5 u9 rfl ⟨⟨by omega, by omega⟩, ?_⟩
  simp only [Int.toNat_natCast]
  refine ld_str (l := all'.drop first) (rd_chunk 1 rfl fun h r => by
    have row := hO3 h r
    have := row.rd.subA (n := all'.length) (size := 1) (c := c2) (by rw [bts_len]; omega) row.2.1 first (by omega)
    rw [Nat.mul_one, bts_drop] at this
    exact this) slc30 u5 u9 hdl'.symm ⟨fun h => absurd h (by simp), fun _ => ?_⟩
  have nx : ∀ (f' : Nat) (x1 : Int), x1 = wr ((i : Int) + 1) → f' ≤ all'.length → first ≤ f' → x1 = ((i + 1 : Nat) : Int) ∧ (((all'.drop f').length : Nat) : Int) ≤ room := by
    intro f' x1 hx1 hf1 hf2
    rw [wr_id (by omega) (by omega)] at hx1
    refine ⟨by omega, ?_⟩
    simp only [List.length_drop] at *
    omega
  have hcellB : ∀ (hi : i < ds.length), (ds.map Vi)[i * 1]? = some (oI.val ds[i]) := fun hi => by
    rw [Nat.mul_one, List.getElem?_map, List.getElem?_eq_getElem hi]; rfl
  refine ⟨fun h => ?_, fun h x1 hx1 => ?_⟩
  rotate_left
  · obtain ⟨rfl, hr'⟩ := nx first x1 hx1 (by omega) (by omega)
    exact ⟨(_, O', pU, pU), ent_same (ent_same (ent_gone ent_nil)), ⟨i + 1, all', first, A2, c2, by omega, rfl, rfl, hO3, by omega, by omega, hr'⟩, by omega⟩
  have hd : i < ds.length := by have := of_decide_eq_true h; omega
  have hneB : B ≠ none := hB.some (by rw [List.length_map]; omega)
  have hidB : B ≠ none ∧ (0 : Int) ≤ (i : Int) ∧ (i : Int) < (ds.length : Int) := ⟨hneB, by omega, by omega⟩
  obtain ⟨x, hx⟩ : ∃ x, ds[i] = x := ⟨_, rfl⟩
  have hxr := hds x (by rw [← hx]; exact List.getElem_mem hd)
  have hcB := hcellB hd
  rw [hx] at hcB
  refine ⟨hidB, ldB_cell hb hB one3 (x : oI.ty) hcB ⟨fun h => ⟨hidB, ldB_cell hb hB one3 (x : oI.ty) hcB ⟨fun h' => ⟨hidB, ldB_cell hb hB one3 (x : oI.ty) hcB ?_⟩, fun h' x1 hx1 => ?_⟩⟩, fun h x1 hx1 => ?_⟩⟩
  · have h0 : 0 ≤ x := of_decide_eq_true h
    have h1 : x ≤ ((all'.drop first).length : Int) := of_decide_eq_true h'
    obtain ⟨u, rfl⟩ : ∃ u : Nat, x = (u : Int) := ⟨x.toNat, by omega⟩
    rw [wr_id (n := (first : Int) + (u : Int)) (by omega) (by omega)]
    refine call_own 0 (by kernel_rfl) rfl hb fun W1 h1 h2 i1 i2 o1 ig d12 d1 d2 => ?_
    have hdrop := Drop_ok i1 o1 (by omega) (by omega) ((first : Int) + (u : Int)) (by omega)
    have hdn : dropN (first : Int) (all'.drop first) ((first : Int) + (u : Int)) = some u := by
      unfold dropN
      rw [if_pos (by omega)]
      congr 1
      omega
    rw [hdn] at hdrop
    refine Ok.mono hdrop fun r h' W' _ _ ⟨hr, ho⟩ => ⟨((u : Int), 0, pU), _, hr, ho, hidB, ldB_cell hb hB one3 ((u : Int) : oI.ty) hcB ⟨fun h => absurd h (by simp), fun _ x1 hx1 => ?_⟩⟩
    obtain ⟨rfl, hr'⟩ := nx (first + u) x1 hx1 (by omega) (by omega)
    refine ⟨(_, O', pU, pU), ent_same (ent_same (ent_gone ent_nil)), ⟨i + 1, all', first + u, A2, c2, by omega, rfl, ?_, hO3, by omega, by omega, hr'⟩, by omega⟩
    rw [List.drop_drop, Int.natCast_add]
  · obtain ⟨rfl, hr'⟩ := nx first x1 hx1 (by omega) (by omega)
    exact ⟨(_, O', pU, pU), ent_same (ent_same (ent_gone ent_nil)), ⟨i + 1, all', first, A2, c2, by omega, rfl, rfl, hO3, by omega, by omega, hr'⟩, by omega⟩
  · obtain ⟨rfl, hr'⟩ := nx first x1 hx1 (by omega) (by omega)
    exact ⟨(_, O', pU, pU), ent_same (ent_same (ent_gone ent_nil)), ⟨i + 1, all', first, A2, c2, by omega, rfl, rfl, hO3, by omega, by omega, hr'⟩, by omega⟩
end Go.Proofs.FlowVc
