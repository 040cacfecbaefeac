/- Contracts: flow's sender, and small ones. -/
import Derived.Test.YtkignenfgilepaaFlA
open Go Go.SL Go.Proofs
set_option maxRecDepth 100000
set_option linter.unusedVariables false
namespace Go.Proofs.FlowVc
theorem wr_id {n : Int} (h0 : -9223372036854775808 ≤ n) (h1 : n ≤ 9223372036854775807) : wr n = n := by
  show IntKind.i64.wrap n = n
  rw [IntKind.wrap_i64]; omega
theorem el30 : elemP Try.prog 30 = some (5, 1, 1, Vb 0) := by kernel_rfl
theorem slc30 : Try.prog.underlying 30 = some (.slice 5) := by kernel_rfl
/-- A block of cells. -/
abbrev Bk (b : Nat) (cs : List Value) (T : TypeId) (h : Hp) : Prop := h = Hp.one b (.cells cs.toArray T (0, 0))
/-- A sender: its room, its first place, its bytes. -/
def SndO (b : Nat) (room first : Int) (d : List UInt8) (h : Hp) : Prop := ∃ A c, Sep (Bk b [Vi room, Vi first, Vs A d.length c] 116) (Row 5 1 (A, d.length, c) (bts d)) h
theorem may_ok {W : World} (room : Int) : Ok Try.prog 48 #[Vi room] W Hp.emp fun r h' _ => r = Vo (decide (1 ≤ room) && decide (room ≤ 65535)) ∧ h' = Hp.emp := by
  refine exec_ok' (P := Try.prog) a48 (fn := Try.f48) (by kernel_rfl) (args := [.raw (Vi room)]) (cs := []) (vs := [Vi room]) rfl (by kernel_rfl) (In.emp W) rfl (R := fun r h' => r = Vo (decide (1 ≤ room) && decide (room ≤ 65535)) ∧ h' = Hp.emp) ?_
  rw [v48]
  exact q_none ⟨rfl, rfl⟩
theorem NewSender_ok {W : World} (room : Int) : Ok Try.prog 26 #[Vi room] W Hp.emp fun r h' _ =>
    if 1 ≤ room ∧ room ≤ 65535 then ∃ b, r = .tuple #[Vp (some ⟨b, 0, none⟩), Vi 0] ∧ SndO b room 0 [] h' else r = .tuple #[Vp none, Vi 1] ∧ h' = Hp.emp := by
  refine exec_ok' (P := Try.prog) a26 (fn := Try.f26) (by kernel_rfl) (args := [.raw (Vi room)]) (cs := [.none]) (vs := [Vi room]) rfl (by kernel_rfl) (In.emp W) (satL_none rfl)
    (R := fun r h' => if 1 ≤ room ∧ room ≤ 65535 then ∃ b, r = .tuple #[Vp (some ⟨b, 0, none⟩), Vi 0] ∧ SndO b room 0 [] h' else r = .tuple #[Vp none, Vi 1] ∧ h' = Hp.emp) ?_
  rw [v26]
  refine call_read (by kernel_rfl) (Base.emp _) fun W1 h1 i1 s1 ig dg => ?_
  refine Ok.mono (may_ok room) fun r h' W' _ _ ⟨hr, _⟩ => ⟨_, hr, fun h => ?_, fun h b => ?_⟩
  · have hn : ¬ (1 ≤ room ∧ room ≤ 65535) := by simp at h; omega
    refine q_none ?_
    rw [if_neg hn]; exact ⟨rfl, rfl⟩
  · have hn : 1 ≤ room ∧ room ≤ 65535 := by simp at h; omega
    refine q_blk 0 rfl fun h' hs => ?_
    rw [if_pos hn]
    exact ⟨b, rfl, none, 0, h', Hp.emp, Disj.emp_right _, (Hp.un_emp _).symm, hs, Row.nil _ _ _⟩
theorem Clone_ok {W : World} {g : Hp} (hg : In W g) {A : Option Addr} {c : Nat} {d : List UInt8} (rd : Rd g A (bts d)) (hA : A = none → d = []) (hn : d.length ≤ 1000000) :
    Ok Try.prog 49 #[Vs A d.length c] W Hp.emp fun r h' _ => ∃ A' c', r = Vs A' d.length c' ∧ (A' = none → d = []) ∧ Row 5 1 (A', d.length, c') (bts d) h' := by
  have hb : Base ⟨W, Hp.emp⟩ g := ⟨hg, Disj.emp_left _⟩
  refine exec_ok' (P := Try.prog) a49 (fn := Try.f49) (by kernel_rfl) (args := [.raw (Vs A d.length c)]) (cs := [.none, .none]) (vs := [Vs A d.length c]) rfl (by kernel_rfl) (In.emp W) (satL_none (satL_none rfl)) (R := fun r h' => ∃ A' c', r = Vs A' d.length c' ∧ (A' = none → d = []) ∧ Row 5 1 (A', d.length, c') (bts d) h') ?_
  rw [v49]
  refine ⟨fun h => ?_, fun h b => ?_⟩
  · have h0 : d = [] := hA (by simpa using h)
    subst h0
    exact q_none ⟨none, 0, rfl, fun _ => rfl, Row.nil _ _ _⟩
  · refine v_append0 1 el30 rfl hb (src_base rd (by rw [bts_len]; omega) (bts_one d) slc30) (by unfold maxLen; omega) (by omega) fun A' c' => ?_
    refine q_own 1 rfl fun h' (hr : Row 5 1 (A', d.length, c') (bts d) h') => ⟨A', c', rfl, fun e => List.eq_nil_of_length_eq_zero (hr.isnil e), hr⟩
/-- Where a place stands. -/
theorem place_ok {W : World} {h : Hp} (hin : In W h) {b : Nat} {room first : Int} {A : Option Addr} {n c : Nat} (hh : Bk b [Vi room, Vi first, Vs A n c] 116 h) (x : Int) (hf : 0 ≤ first ∧ first ≤ 4611686018427387904) (hx : -9223372036854775808 ≤ x ∧ x ≤ 9223372036854775807) :
    Ok Try.prog 58 #[Vp (some ⟨b, 0, none⟩), Vi x] W h fun r h' _ => r = (if first ≤ x ∧ x - first ≤ (n : Int) then .tuple #[Vi (x - first), Vi 0] else .tuple #[Vi 0, Vi 1]) ∧ Bk b [Vi room, Vi first, Vs A n c] 116 h' := by
  refine exec_ok' (P := Try.prog) a58 (fn := Try.f58) (by kernel_rfl) (args := [.ptr 0 0, .raw (Vi x)]) (cs := [.blk b [Vi room, Vi first, Vs A n c] 116]) (vs := [Vp (some ⟨b, 0, none⟩), Vi x]) rfl (by kernel_rfl) hin (satL_one hh)
    (R := fun r h' => r = (if first ≤ x ∧ x - first ≤ (n : Int) then .tuple #[Vi (x - first), Vi 0] else .tuple #[Vi 0, Vi 1]) ∧ Bk b [Vi room, Vi first, Vs A n c] 116 h') ?_
  rw [v58]
  refine ⟨rfl, fun h => ?_, fun h => ?_⟩
  · refine q_blk 0 rfl fun h' hs => ⟨?_, hs⟩
    by_cases hlt : x < first
    · rw [if_neg (by omega)]; rfl
    · rw [wr_id (by omega) (by omega)] at h
      simp at h
      rw [if_neg (by omega)]; rfl
  · simp only [Bool.or_eq_false_iff, decide_eq_false_iff_not] at h
    rw [wr_id (by omega) (by omega)] at h
    refine q_blk 0 rfl fun h' hs => ⟨?_, hs⟩
    rw [if_pos (by omega), wr_id (by omega) (by omega)]; rfl
theorem sat2 {x y : Ch} {h1 h2 : Hp} (d : Disj h1 h2) (hx : x.sat h1) (hy : y.sat h2) : satL [x, y] (h1.un h2) := ⟨h1, h2, d, rfl, hx, satL_one hy⟩
theorem Write_ok {W : World} {g h : Hp} (hg : In W g) (hin : In W h) (dg : Disj h g) {b : Nat} {room first : Int} {d : List UInt8} (hh : SndO b room first d h) (hroom : (d.length : Int) ≤ room) (hr2 : room ≤ 70000)
    {B : Option Addr} {s : List UInt8} {cb : Nat} (rd : Rd g B (bts s)) (hs : s.length ≤ cb) (hs2 : s.length ≤ 100000000) :
    Ok Try.prog 27 #[Vp (some ⟨b, 0, none⟩), Vs B s.length cb] W h fun r h' _ => r = .tuple #[Vi ((min s.length (room - d.length).toNat : Nat) : Int), Vi 0] ∧ SndO b room first (d ++ s.take (min s.length (room - d.length).toNat)) h' := by
  obtain ⟨A, c, h1, h2, d12, rfl, hb1, hrow⟩ := hh
  have hb : Base ⟨W, h1.un h2⟩ g := ⟨hg, dg⟩
  have hk : (if wr (room - (d.length : Int)) < (s.length : Int) then wr (room - (d.length : Int)) else (s.length : Int)) = ((min s.length (room - d.length).toNat : Nat) : Int) := by
    rw [wr_id (by omega) (by omega)]
    split <;> omega
  obtain ⟨k, hkk⟩ : ∃ k, min s.length (room - (d.length : Int)).toNat = k := ⟨_, rfl⟩
  rw [hkk] at hk ⊢
  have hks : k ≤ s.length := by omega
  refine exec_ok' (P := Try.prog) a27 (fn := Try.f27) (by kernel_rfl) (args := [.ptr 0 0, .raw (Vs B s.length cb)]) (cs := [.blk b [Vi room, Vi first, Vs A d.length c] 116, .own (Row 5 1 (A, d.length, c) (bts d))]) (vs := [Vp (some ⟨b, 0, none⟩), Vs B s.length cb]) rfl (by kernel_rfl) hin
    (sat2 d12 hb1 hrow) (R := fun r h' => r = .tuple #[Vi (k : Int), Vi 0] ∧ SndO b room first (d ++ s.take k) h') ?_
  rw [v27, hk]
  refine ⟨rfl, ⟨by omega, by omega, by omega⟩, ?_⟩
  rw [Int.toNat_natCast, subA_zero]
  have hl : (s.take k).length = k := by simp; omega
  refine v_append2 1 el30 rfl (fun h o => o) hb (src_base (news := bts (s.take k)) (by rw [← bts_take]; exact rd.take k) (by rw [bts_len, hl]; omega) (bts_one _) slc30) (by unfold maxLen; omega) (by omega) fun A' c' O' hO' => ?_
  refine q_two 0 1 rfl rfl (by decide) fun g1 g2 dd s1 s2 => ⟨rfl, A', c', g1, g2, dd, rfl, ?_, ?_⟩
  · rw [List.length_append, hl]; exact s1
  · have := hO' g2 s2
    rw [List.length_append, hl, bts_append]
    exact this
theorem Ends_ok {W : World} {h : Hp} (hin : In W h) {b : Nat} {room first : Int} {d : List UInt8} (hh : SndO b room first d h) (hf : 0 ≤ first ∧ first ≤ 4611686018427387904) (hd : d.length ≤ 100000000) :
    Ok Try.prog 33 #[Vp (some ⟨b, 0, none⟩)] W h fun r h' _ => r = .tuple #[Vi first, Vi (first + d.length)] ∧ SndO b room first d h' := by
  obtain ⟨A, c, h1, h2, d12, rfl, hb1, hrow⟩ := hh
  obtain ⟨i1, i2⟩ := (in_un d12).1 hin
  refine Ok.beside (R := fun r h' => r = .tuple #[Vi first, Vi (first + d.length)] ∧ Bk b [Vi room, Vi first, Vs A d.length c] 116 h') ?_ d12 i2 fun r h' dd ⟨hr, hk⟩ => ⟨hr, A, c, h', h2, dd, rfl, hk, hrow⟩
  refine exec_ok' (P := Try.prog) a33 (fn := Try.f33) (by kernel_rfl) (args := [.ptr 0 0]) (cs := [.blk b [Vi room, Vi first, Vs A d.length c] 116]) (vs := [Vp (some ⟨b, 0, none⟩)]) rfl (by kernel_rfl) i1
    (satL_one hb1) ?_
  rw [v33]
  refine ⟨rfl, q_blk 0 rfl fun h' hs => ⟨?_, hs⟩⟩
  rw [wr_id (by omega) (by omega)]; rfl
theorem call_place {c : Ctx} {cs : List Ch} {b : Nat} {room first : Int} {A : Option Addr} {n cp : Nat} (hn : cs[0]? = some (.blk b [Vi room, Vi first, Vs A n cp] 116)) (x : Int) (hf : 0 ≤ first ∧ first ≤ 4611686018427387904) (hx : -9223372036854775808 ≤ x ∧ x ≤ 9223372036854775807)
    {k : (OS.tup [TS.one (Sc.int .i64), TS.one (Sc.int .i64)]).ty → PUnit → Prop} (hy : first ≤ x ∧ x - first ≤ (n : Int) → k (x - first, 0, pU) pU) (hno : ¬ (first ≤ x ∧ x - first ≤ (n : Int)) → k (0, 1, pU) pU) :
    (hops Try.prog c).call (OS.tup [TS.one (Sc.int .i64), TS.one (Sc.int .i64)]) 58 [Vp (some ⟨b, 0, none⟩), Vi x] cs [] k := by
  refine call_use 0 (by kernel_rfl) hn (Base.emp _) fun W h1 h2 i1 i2 hs ig d12 d1 d2 => ?_
  refine Ok.mono (place_ok i1 hs x hf hx) fun r h' W' _ _ ⟨hr, hk⟩ => ?_
  by_cases hc : first ≤ x ∧ x - first ≤ (n : Int)
  · rw [if_pos hc] at hr
    exact ⟨(x - first, 0, pU), h', hr, Sub.refl _, hk, hy hc⟩
  · rw [if_neg hc] at hr
    exact ⟨(0, 1, pU), h', hr, Sub.refl _, hk, hno hc⟩
/-- What Peek answers. -/
def peekF (first : Int) (d : List UInt8) (x y : Int) : List UInt8 × Int :=
  if first ≤ x ∧ x - first ≤ (d.length : Int) then (if y < 0 then ([], 1) else ((d.drop (x - first).toNat).take y.toNat, 0)) else ([], 1)
theorem Peek_ok {W : World} {h : Hp} (hin : In W h) {b : Nat} {room first : Int} {d : List UInt8} (hh : SndO b room first d h) (hf : 0 ≤ first ∧ first ≤ 4611686018427387904) (hd : d.length ≤ 100000000) (x y : Int) (hx : -9223372036854775808 ≤ x ∧ x ≤ 9223372036854775807) :
    Ok Try.prog 29 #[Vp (some ⟨b, 0, none⟩), Vi x, Vi y] W h fun r h' _ => ∃ A c, r = .tuple #[Vs A (peekF first d x y).1.length c, Vi (peekF first d x y).2] ∧ Sep (SndO b room first d) (Row 5 1 (A, (peekF first d x y).1.length, c) (bts (peekF first d x y).1)) h' := by
  obtain ⟨A, c, h1, h2, d12, rfl, hb1, hrow⟩ := hh
  have hb : Base ⟨W, h1.un h2⟩ Hp.emp := Base.emp _
  refine exec_ok' (P := Try.prog) a29 (fn := Try.f29) (by kernel_rfl) (args := [.ptr 0 0, .raw (Vi x), .raw (Vi y)]) (cs := [.blk b [Vi room, Vi first, Vs A d.length c] 116, .own (Row 5 1 (A, d.length, c) (bts d)), .none]) (vs := [Vp (some ⟨b, 0, none⟩), Vi x, Vi y]) rfl (by kernel_rfl) hin
    ⟨h1, h2, d12, rfl, hb1, h2, Hp.emp, Disj.emp_right _, (Hp.un_emp _).symm, hrow, satL_none rfl⟩
    (R := fun r h' => ∃ A c, r = .tuple #[Vs A (peekF first d x y).1.length c, Vi (peekF first d x y).2] ∧ Sep (SndO b room first d) (Row 5 1 (A, (peekF first d x y).1.length, c) (bts (peekF first d x y).1)) h') ?_
  rw [v29]
  have fin0 : ∀ {cs : List Ch}, peekF first d x y = ([], 1) → cs[0]? = some (.blk b [Vi room, Vi first, Vs A d.length c] 116) → cs[1]? = some (.own (Row 5 1 (A, d.length, c) (bts d))) → Fin (fun r h' => ∃ A c, r = .tuple #[Vs A (peekF first d x y).1.length c, Vi (peekF first d x y).2] ∧ Sep (SndO b room first d) (Row 5 1 (A, (peekF first d x y).1.length, c) (bts (peekF first d x y).1)) h') [Vs none 0 0, Vi 1] cs := by
    intro cs e c0 c1
    rw [e]
    refine q_two 0 1 c0 c1 (by decide) fun g1 g2 dd s1 s2 => ⟨none, 0, rfl, g1.un g2, Hp.emp, Disj.emp_right _, (Hp.un_emp _).symm, ⟨A, c, g1, g2, dd, rfl, s1, s2⟩, Row.nil _ _ _⟩
  refine call_place rfl x hf hx (fun hc => ⟨fun h => absurd h (by simp), fun _ => ⟨fun h => ?_, fun h => ?_⟩⟩) (fun hc => ⟨fun _ => ?_, fun h => absurd h (by simp)⟩)
  · refine fin0 ?_ rfl rfl
    unfold peekF
    rw [if_pos hc, if_pos (of_decide_eq_true h)]
  · have hy : ¬ y < 0 := of_decide_eq_false h
    obtain ⟨i, hi⟩ : ∃ i : Nat, x - first = (i : Int) := ⟨(x - first).toNat, by omega⟩
    simp only [hi]
    have hil : i ≤ d.length := by omega
    obtain ⟨k, hk⟩ : ∃ k : Nat, (if wr ((d.length : Int) - (i : Int)) < y then wr ((d.length : Int) - (i : Int)) else y) = (k : Int) := by
      refine ⟨min (d.length - i) y.toNat, ?_⟩
      rw [wr_id (by omega) (by omega)]
      split <;> omega
    have hk2 : k = min (d.length - i) y.toNat := by
      rw [wr_id (by omega) (by omega)] at hk
      split at hk <;> omega
    rw [hk]
    refine v_makeS 2 el30 rfl (by omega) (by omega) (by omega) (by omega) hb fun bb => ⟨⟨by omega, by omega⟩, ?_⟩
    simp only [Int.toNat_natCast]
    rw [made_bts]
    have hrd : ∀ h, satL [Ch.blk b [Vi room, Vi first, Vs A d.length c] 116, Ch.own (Row 5 1 (A, d.length, c) (bts d)), Ch.own (Row 5 1 (some ⟨bb, 0, none⟩, k, k) (bts (List.replicate k 0)))] h → Rd h (subA A c i 1) (bts (d.drop i)) := by
      intro h s
      have := (rd_chunk 1 rfl (fun h r => Row.rd r) h s).subA (n := d.length) (size := 1) (c := c) (by rw [bts_len]; omega) hrow.2.1 i hil
      rw [Nat.mul_one, bts_drop] at this
      exact this
    have hdl : (d.drop i).length = d.length - i := by simp
    refine v_copy 2 el30 rfl (D := Emp) (fun h o => Sep.ofEmp o) (o := 0) (.inr (by simp [oget, Addr.add])) (by omega) hb (fun W' h' ih s _ _ => by
      have := SrcN.rd (P := Try.prog) (hrd h' s) ih k (c - i)
      rw [hdl] at this
      exact this) fun m hm => ?_
    have e : peekF first d x y = ((d.drop i).take k, 0) := by
      unfold peekF
      rw [if_pos hc, if_neg hy, hi, Int.toNat_natCast, hk2]
      congr 1
      rw [← hdl, List.take_eq_take_iff]
      omega
    rw [e]
    have hlk : ((d.drop i).take k).length = k := by simp; omega
    simp only [hlk]
    refine q3 fun g1 g2 g3 d1 d2 s1 s2 s3 => ?_
    refine ⟨some ⟨bb, 0, none⟩, k, rfl, g1.un g2, g3, disj_un_left.2 ⟨(disj_un_right.1 d1).2, d2⟩, (Hp.un_assoc _ _ _).symm, ⟨A, c, g1, g2, (disj_un_right.1 d1).1, rfl, s1, s2⟩, ?_⟩
    have s3' := sep_emp s3
    rw [Nat.zero_mul, setAt_bts _ _ _ (by simp; omega)] at s3'
    simpa [hlk, hdl] using s3'
  · refine fin0 ?_ rfl rfl
    unfold peekF
    rw [if_neg hc]
/-- What Drop leaves. -/
def dropN (first : Int) (d : List UInt8) (x : Int) : Option Nat := if first ≤ x ∧ x - first ≤ (d.length : Int) then some (x - first).toNat else none
theorem Drop_ok {W : World} {h : Hp} (hin : In W h) {b : Nat} {room first : Int} {d : List UInt8} (hh : SndO b room first d h) (hf : 0 ≤ first ∧ first ≤ 4611686018427387904) (hd : d.length ≤ 100000000) (x : Int) (hx : -9223372036854775808 ≤ x ∧ x ≤ 9223372036854775807) :
    Ok Try.prog 31 #[Vp (some ⟨b, 0, none⟩), Vi x] W h fun r h' _ => match dropN first d x with
      | some i => r = .tuple #[Vi (i : Int), Vi 0] ∧ SndO b room (first + i) (d.drop i) h'
      | none => r = .tuple #[Vi 0, Vi 1] ∧ SndO b room first d h' := by
  obtain ⟨A, c, h1, h2, d12, rfl, hb1, hrow⟩ := hh
  have hb : Base ⟨W, h1.un h2⟩ Hp.emp := Base.emp _
  refine exec_ok' (P := Try.prog) a31 (fn := Try.f31) (by kernel_rfl) (args := [.ptr 0 0, .raw (Vi x)]) (cs := [.blk b [Vi room, Vi first, Vs A d.length c] 116, .own (Row 5 1 (A, d.length, c) (bts d))]) (vs := [Vp (some ⟨b, 0, none⟩), Vi x]) rfl (by kernel_rfl) hin
    (sat2 d12 hb1 hrow)
    (R := fun r h' => match dropN first d x with
      | some i => r = .tuple #[Vi (i : Int), Vi 0] ∧ SndO b room (first + i) (d.drop i) h'
      | none => r = .tuple #[Vi 0, Vi 1] ∧ SndO b room first d h') ?_
  rw [v31]
  refine call_place rfl x hf hx (fun hc => ⟨fun h => absurd h (by simp), fun _ => ?_⟩) (fun hc => ⟨fun _ => ?_, fun h => absurd h (by simp)⟩)
  · obtain ⟨i, hi⟩ : ∃ i : Nat, x - first = (i : Int) := ⟨(x - first).toNat, by omega⟩
    have e : dropN first d x = some i := by
      unfold dropN
      rw [if_pos hc, hi, Int.toNat_natCast]
    rw [e]
    simp only [hi]
    have hil : i ≤ d.length := by omega
    refine ⟨⟨by omega, by omega⟩, ?_⟩
    rw [Int.toNat_natCast]
    have hrd : ∀ h, satL [Ch.blk b [Vi room, Vi first, Vs A d.length c] 116, Ch.own (Row 5 1 (A, d.length, c) (bts d))] h → Rd h (subA A c i 1) (bts (d.drop i)) := by
      intro h s
      have := (rd_chunk 1 rfl (fun h r => Row.rd r) h s).subA (n := d.length) (size := 1) (c := c) (by rw [bts_len]; omega) hrow.2.1 i hil
      rw [Nat.mul_one, bts_drop] at this
      exact this
    have hdl : (d.drop i).length = d.length - i := by simp
    have hA : d.length = 0 ∨ A = some ((oget A).add (0 * 1)) := by
      cases A with
      | none => exact .inl (hrow.isnil rfl)
      | some a => exact .inr (by simp [oget, Addr.add])
    refine v_copy 1 el30 rfl (D := Emp) (fun h o => Sep.ofEmp o) (o := 0) hA (by omega) hb (fun W' h' ih s _ _ => by
      have := SrcN.rd (P := Try.prog) (hrd h' s) ih d.length (c - i)
      rw [hdl, List.take_of_length_le (by rw [hdl]; omega)] at this
      exact this) fun m hm => ?_
    rw [bts_len, hdl, Nat.mul_one] at hm
    subst hm
    have hcl := hrow.2.1
    simp only at hcl
    refine ⟨⟨by omega, by omega⟩, ?_⟩
    rw [subA_zero, Int.toNat_natCast, wr_id (by omega) (by omega)]
    refine q_two 0 1 rfl rfl (by decide) fun g1 g2 dd s1 s2 => ⟨rfl, A, c, g1, g2, dd, rfl, ?_, ?_⟩
    · rw [hdl]; exact s1
    · have s2' := sep_emp s2
      rw [Nat.zero_mul, setAt_bts _ _ _ (by simp)] at s2'
      have := s2'.trunc (m := d.length - i) (by omega)
      rw [hdl]
      rw [Nat.mul_one, bts_take] at this
      have e2 : ((d.take 0 ++ d.drop i ++ d.drop (0 + (d.drop i).length)).take (d.length - i)) = d.drop i := by
        rw [List.take_zero, List.nil_append, List.take_append_of_le_length (by omega), List.take_of_length_le (by omega)]
      rw [e2] at this
      exact this
  · have e : dropN first d x = none := by
      unfold dropN
      rw [if_neg hc]
    rw [e]
    exact q_two 0 1 rfl rfl (by decide) fun g1 g2 dd s1 s2 => ⟨rfl, A, c, g1, g2, dd, rfl, s1, s2⟩
end Go.Proofs.FlowVc
