/- put, Sum, Check, Bytes. -/
import Derived.Test.YtocloghnfnkchaaDoorSpI
import Derived.Test.YtocloghnfnkchaaDoorVcD
import Derived.Test.YtocloghnfnkchaaDoorMut
open Go Go.SL Go.Proofs
set_option maxRecDepth 100000
set_option linter.unusedVariables false
namespace Go.Proofs.SplitVc
theorem u8w (z : Int) : ∃ b : UInt8, IntKind.u8.wrap z = (b.toNat : Int) := by
  refine ⟨UInt8.ofNat (z % 256).toNat, ?_⟩
  rw [IntKind.wrap_u8, UInt8.toNat_ofNat']
  omega
theorem put_ok {W : World} {h : Hp} (hin : In W h) {b n cp o n' c' : Nat} {l : List UInt8} (row : Row 5 1 (some ⟨b, 0, none⟩, n, cp) (bts l) h) (ho : o + 2 ≤ n) (hn' : 2 ≤ n') (m : Int) :
    Ok Tryd.prog 17 #[Vs (some ⟨b, o, none⟩) n' c', Vi m] W h fun r h' _ => r = .tuple #[] ∧ ∃ l', l'.length = n ∧ Row 5 1 (some ⟨b, 0, none⟩, n, cp) (bts l') h' := by
  have hl : l.length = n := by have := row.1; simpa [bts_len] using this
  refine exec_ok' (P := Tryd.prog) e17 (fn := Tryd.f17) (by kernel_rfl) (args := [.raw (Vs (some ⟨b, o, none⟩) n' c'), .raw (Vi m)]) (cs := [.own (Row 5 1 (some ⟨b, 0, none⟩, n, cp) (bts l))]) (vs := [Vs (some ⟨b, o, none⟩) n' c', Vi m]) rfl (by kernel_rfl) hin
    (satL_one row) (R := fun r h' => r = .tuple #[] ∧ ∃ l', l'.length = n ∧ Row 5 1 (some ⟨b, 0, none⟩, n, cp) (bts l') h') ?_
  rw [ve17]
  obtain ⟨x, hx⟩ := u8w (m.fdiv (2 ^ 8))
  obtain ⟨y, hy⟩ := u8w m
  refine ⟨⟨by simp, by omega, by omega⟩, ?_⟩
  rw [hx, hy]
  refine u_byte 0 rfl (fun h r => r) (o := o) (by simp [oget, Addr.add0]) x rfl (by kernel_rfl) (by omega) fun O1 h1 => ?_
  refine ⟨⟨by simp, by omega, by omega⟩, ?_⟩
  refine u_byte 0 rfl h1 (o := o + 1) (by simp [oget, Addr.add0]) y rfl (by kernel_rfl) (by simp; omega) fun O2 h2 => ?_
  exact q_own 0 rfl fun h r => ⟨rfl, _, by simp; exact hl, h2 h r⟩
theorem call_put {c : Ctx} {cs : List Ch} {O : Hp → Prop} (hn : cs[2]? = some (.own O)) {b n cp : Nat} {l : List UInt8} (hO : ∀ h, O h → Row 5 1 (some ⟨b, 0, none⟩, n, cp) (bts l) h) (o : Nat) (ho : o + 2 ≤ n) (hcp : n ≤ cp) (m : Int)
    {k : (OS.tup []).ty → TupF [(2, .own)] → Prop} (hk : ∀ (O' : Hp → Prop) (l' : List UInt8), l'.length = n → (∀ h, O' h → Row 5 1 (some ⟨b, 0, none⟩, n, cp) (bts l') h) → k pU (O', pU)) :
    (hops Tryd.prog c).call (OS.tup []) 17 [Vs (subA (some ⟨b, 0, none⟩) cp o 1) (n - o) (cp - o), Vi m] cs [(2, .own)] k := by
  have e : subA (some ⟨b, 0, none⟩) cp o 1 = some ⟨b, o, none⟩ := by
    unfold subA
    rw [if_neg (by omega)]
    simp [Addr.add0]
  rw [e]
  refine call_own 2 (by kernel_rfl) hn (Base.emp c) fun W h1 h2 i1 i2 o1 ig d12 d1 d2 => ?_
  refine Ok.mono (put_ok i1 (hO h1 o1) ho (by omega) m) fun r h' W' _ _ ⟨hr, l', hl', hrow⟩ => ?_
  exact ⟨pU, Row 5 1 (some ⟨b, 0, none⟩, n, cp) (bts l'), hr, hrow, hk _ l' hl' (fun h r => r)⟩
theorem add_ok {W : World} (a b : Int) : Ok Tryd.prog 34 #[Vi a, Vi b] W Hp.emp fun r h' _ => ∃ x, r = Vi x := by
  refine exec_ok' (P := Tryd.prog) e34 (fn := Tryd.f34) (by kernel_rfl) (args := [.raw (Vi a), .raw (Vi b)]) (cs := []) (vs := [Vi a, Vi b]) rfl (by kernel_rfl) (In.emp W) rfl (R := fun r h' => ∃ x, r = Vi x) ?_
  rw [ve34]
  intro x hx
  exact q_none ⟨_, rfl⟩
theorem word_ok {W : World} {g : Hp} (hg : In W g) {A : Option Addr} {c : Nat} {l : List UInt8} (rd : Rd g A (bts l)) : Ok Tryd.prog 35 #[Vs A l.length c] W Hp.emp fun r h' _ => ∃ x, r = Vi x := by
  have hb : Base ⟨W, Hp.emp⟩ g := ⟨hg, Disj.emp_left _⟩
  refine exec_ok' (P := Tryd.prog) e35 (fn := Tryd.f35) (by kernel_rfl) (args := [.raw (Vs A l.length c)]) (cs := []) (vs := [Vs A l.length c]) rfl (by kernel_rfl) (In.emp W) rfl (R := fun r h' => ∃ x, r = Vi x) ?_
  rw [ve35]
  refine ⟨fun h => ?_, fun h => ⟨fun h2 => q_none ⟨_, rfl⟩, fun h2 => ?_⟩⟩
  · have h1 : l.length = 1 := by have := eq_of_beq h; omega
    refine ⟨⟨rd.some (by rw [bts_len]; omega), by omega, by omega⟩, ?_⟩
    refine ldB_cell (r := oU) (k := 0) hb rd (by kernel_rfl) ((l[0]'(by omega)).toNat : Int) (bts_get l 0 (by omega)) ?_
    intro x hx
    exact q_none ⟨_, rfl⟩
  · have h1 : 2 ≤ l.length := by
      have a : ¬ l.length = 1 := fun e => by rw [e] at h; simp at h
      have b : ¬ l.length = 0 := fun e => by rw [e] at h2; simp at h2
      omega
    refine ⟨⟨rd.some (by rw [bts_len]; omega), by omega, by omega⟩, ?_⟩
    refine ldB_cell (r := oU) (k := 1) hb rd (by kernel_rfl) ((l[1]'(by omega)).toNat : Int) (bts_get l 1 (by omega)) ?_
    intro x hx
    refine ⟨⟨rd.some (by rw [bts_len]; omega), by omega, by omega⟩, ?_⟩
    refine ldB_cell (r := oU) (k := 0) hb rd (by kernel_rfl) ((l[0]'(by omega)).toNat : Int) (bts_get l 0 (by omega)) ?_
    intro x hx
    exact q_none ⟨_, rfl⟩
theorem sum_ok {W : World} {g : Hp} (hg : In W g) {A : Option Addr} {c : Nat} {l : List UInt8} (rd : Rd g A (bts l)) (hc : l.length ≤ c) : Ok Tryd.prog 23 #[Vs A l.length c] W Hp.emp fun r h' _ => ∃ x, r = Vi x := by
  have hb : Base ⟨W, Hp.emp⟩ g := ⟨hg, Disj.emp_left _⟩
  refine exec_ok' (P := Tryd.prog) e23 (fn := Tryd.f23) (by kernel_rfl) (args := [.raw (Vs A l.length c)]) (cs := []) (vs := [Vs A l.length c]) rfl (by kernel_rfl) (In.emp W) rfl (R := fun r h' => ∃ x, r = Vi x) ?_
  rw [ve23]
  refine ⟨fun x y => ∃ (A : Option Addr) (c : Nat) (l : List UInt8), x.2.1 = (A, l.length, c) ∧ l.length ≤ c ∧ Rd g A (bts l), fun x y => x.2.1.2.1, ⟨pU, Ent.refl _, A, c, l, rfl, hc, rd⟩, ?_⟩
  rintro ⟨n, ⟨A', n', c'⟩, _⟩ _ ⟨A1, c1, l1, h1, h2, h3⟩
  simp only [Prod.mk.injEq] at h1
  obtain ⟨rfl, rfl, rfl⟩ := h1
  refine ⟨fun h => ?_, fun h => q_none ⟨_, rfl⟩⟩
  have hpos : 0 < l1.length := by have := of_decide_eq_true h; simp only at this; omega
  refine call_read (by kernel_rfl) hb fun W1 h1 i1 s1 ig dg => ?_
  refine Ok.mono (word_ok ig h3) fun r h' W' _ _ ⟨v, hv⟩ => ⟨v, hv, ?_⟩
  refine call_read (by kernel_rfl) hb fun W1 h1 i1 s1 ig dg => ?_
  refine Ok.mono (add_ok n v) fun r h' W' _ _ ⟨v2, hv2⟩ => ⟨v2, hv2, ?_⟩
  obtain ⟨m, hm, hm1, hm2⟩ : ∃ m : Nat, (if (l1.length : Int) < 2 then (l1.length : Int) else 2) = (m : Int) ∧ 1 ≤ m ∧ m ≤ l1.length := by
    by_cases hlt : (l1.length : Int) < 2
    · exact ⟨l1.length, by rw [if_pos hlt], by omega, by omega⟩
    · exact ⟨2, by rw [if_neg hlt]; rfl, by omega, by omega⟩
  simp only [hm, Int.toNat_natCast]
  refine ⟨⟨by omega, by omega⟩, pU, Ent.refl _, ⟨subA A' c' m 1, c' - m, l1.drop m, by simp, by simp; omega, ?_⟩, by show l1.length - m < l1.length; omega⟩
  have := h3.subA (n := l1.length) (size := 1) (c := c') (by rw [bts_len]; omega) h2 m hm2
  rw [Nat.mul_one, bts_drop] at this
  exact this
theorem icheck_ok {W : World} {g : Hp} (hg : In W g) {A : Option Addr} {c : Nat} {l : List UInt8} (rd : Rd g A (bts l)) (hc : l.length ≤ c) : Ok Tryd.prog 18 #[Vs A l.length c] W Hp.emp fun r h' _ => ∃ x, r = Vi x := by
  have hb : Base ⟨W, Hp.emp⟩ g := ⟨hg, Disj.emp_left _⟩
  refine exec_ok' (P := Tryd.prog) e18 (fn := Tryd.f18) (by kernel_rfl) (args := [.raw (Vs A l.length c)]) (cs := []) (vs := [Vs A l.length c]) rfl (by kernel_rfl) (In.emp W) rfl (R := fun r h' => ∃ x, r = Vi x) ?_
  rw [ve18]
  refine call_read (by kernel_rfl) hb fun W1 h1 i1 s1 ig dg => ?_
  exact Ok.mono (sum_ok ig rd hc) fun r h' W' _ _ ⟨v, hv⟩ => ⟨v, hv, q_none ⟨_, rfl⟩⟩
/-- A text is copied into a row of bytes. -/
theorem copy_in {c : Ctx} {cs : List Ch} {O : Hp → Prop} (hn : cs[2]? = some (.own O)) {b n cp : Nat} {l : List UInt8} (hO : ∀ h, O h → Row 5 1 (some ⟨b, 0, none⟩, n, cp) (bts l) h) (hl : l.length = n) (o : Nat) (ho : o ≤ n) (hcp : n ≤ cp) (s : ByteArray)
    {k : oI.ty → TupF [(2, .own)] → Prop} (hk : ∀ (O' : Hp → Prop) (l' : List UInt8) (m : Int), l'.length = n → (∀ h, O' h → Row 5 1 (some ⟨b, 0, none⟩, n, cp) (bts l') h) → k m (O', pU)) :
    (hops Tryd.prog c).v oI (Builtin.copy_ #[22, 9] 3 #[Vs (subA (some ⟨b, 0, none⟩) cp o 1) (n - o) (cp - o), Vt s]) cs [(2, .own)] k := by
  rw [← btx_data s]
  refine v_copy 2 el22 hn (D := Emp) (fun h o => Sep.ofEmp (hO h o)) (o := o) ?_ (by omega) (Base.emp c) (fun W h _ _ _ _ => SrcN.str s.data.toList W (n - o)) fun m hm => ?_
  · by_cases h0 : n = o
    · left; omega
    · right
      unfold subA
      rw [if_neg (by omega)]
      rfl
  · refine hk _ ((l.take o ++ s.data.toList.take (n - o)) ++ l.drop (o + (s.data.toList.take (n - o)).length)) _ (by simp; omega) fun h r => ?_
    have := sep_emp r
    rw [Nat.mul_one, setAt_bts _ _ _ (by simp; omega)] at this
    exact this
theorem Bytes_ok {W : World} {g : Hp} (hg : In W g) (hlaid : Laid g) (x : Pd) (A : Option Addr) (c : Nat) (hx : It.ok (x, A, c) g) (hd : x.data.length ≤ 1000000) (hck : checkD x = 0) :
    Ok Tryd.prog 10 #[(x.pk A c).val] W Hp.emp fun r h' _ => ∃ B d, r = .tuple #[Vs B (20 + x.opts.size + x.data.length) d, Vi 0] := by
  have hb : Base ⟨W, Hp.emp⟩ g := ⟨hg, Disj.emp_left _⟩
  obtain ⟨hsum, ho4, ho40, _, _⟩ := checkD_sum hck hd
  refine exec_ok' (P := Tryd.prog) e10 (fn := Tryd.f10) (by kernel_rfl) (args := [.raw (x.pk A c).val]) (cs := [.none, .none, .none]) (vs := [(x.pk A c).val]) rfl (by kernel_rfl) (In.emp W) (satL_none (satL_none (satL_none rfl)))
    (R := fun r h' => ∃ B d, r = .tuple #[Vs B (20 + x.opts.size + x.data.length) d, Vi 0]) ?_
  rw [ve10]
  intro b
  refine call_use_make 0 1 (by kernel_rfl) rfl rfl hb fun W1 h1 h2 i1 i2 hs ig d12 d1 d2 => ?_
  refine Ok.mono (check_ok i1 hs) fun v h' W' _ _ ⟨g1, g2, dg, hsub, hs', he⟩ => ?_
  rw [checkE_pk, hck] at he
  have hv : v = .nilIface := by
    rcases he with ⟨h, _⟩ | ⟨h, _⟩
    · exact h
    · exact absurd rfl h
  subst hv
  refine ⟨.nilIface, g1, g2, fun h => True, rfl, dg, hsub, hs', trivial, ?_⟩
  refine v_read hb fun W2 h3 i3 s3 ig3 dg3 => ⟨false, ?_, (fun h => by cases h), (fun _ => ?_)⟩
  · kernel_rfl
  intro y hy
  have hy' : y = ((20 + x.opts.size : Nat) : Int) := by
    rw [hy]; show wr (20 + (x.opts.size : Int)) = _
    rw [wr_id (by omega) (by omega)]; omega
  subst hy'
  have hw : wr (((20 + x.opts.size : Nat) : Int) + (x.data.length : Int)) = ((20 + x.opts.size + x.data.length : Nat) : Int) := by rw [wr_id (by omega) (by omega)]; omega
  rw [show (Pd.pk x A c).n = x.data.length from rfl, hw]
  refine v_makeS 2 el22 rfl (by omega) (by omega) (by omega) (by omega) hb fun bb => ?_
  simp only [Int.toNat_natCast]
  have hle : 20 + x.opts.size ≤ 20 + x.opts.size + x.data.length := by omega
  have hrow : ∀ h, Row 5 1 (some ⟨bb, 0, none⟩, 20 + x.opts.size, 20 + x.opts.size + x.data.length) ((madeCells (Vb 0).cells ((20 + x.opts.size + x.data.length) * 1)).toList.take ((20 + x.opts.size) * 1)) h →
      Row 5 1 (some ⟨bb, 0, none⟩, 20 + x.opts.size, 20 + x.opts.size + x.data.length) (bts (List.replicate (20 + x.opts.size) 0)) h := by
    intro h r
    have e : (madeCells (Vb 0).cells ((20 + x.opts.size + x.data.length) * 1)).toList.take ((20 + x.opts.size) * 1) = bts (List.replicate (20 + x.opts.size) 0) := by
      have := made_bts (20 + x.opts.size + x.data.length)
      rw [List.take_of_length_le (by simp [size_madeCells])] at this
      rw [this, Nat.mul_one, bts_take, List.take_replicate, Nat.min_eq_left hle]
    rw [e] at r
    exact r
  obtain ⟨u0, hu0⟩ := u8w ((BitVec.ofInt 8 64 ||| BitVec.ofInt 8 (IntKind.u8.wrap (wr (Int.tdiv ((20 + x.opts.size : Nat) : Int) 4)))).toNat : Int)
  obtain ⟨u1, hu1⟩ := u8w x.tos
  obtain ⟨u8', hu8⟩ := u8w x.ttl
  obtain ⟨u9, hu9⟩ := u8w x.proto
  rw [hu0, hu1, hu8, hu9]
  refine ⟨⟨by simp, by omega, by omega⟩, ?_⟩
  refine u_byte 2 rfl hrow (o := 0) rfl u0 rfl (by kernel_rfl) (by simp; omega) fun O1 h1 => ?_
  refine ⟨⟨by simp, by omega, by omega⟩, ?_⟩
  refine u_byte 2 rfl h1 (o := 1) rfl u1 rfl (by kernel_rfl) (by simp; omega) fun O2 h2 => ?_
  refine ⟨⟨by omega, by omega⟩, ?_⟩
  refine call_put rfl h2 2 (by omega) hle _ fun O3 l3 hl3 h3 => ?_
  refine ⟨⟨by omega, by omega⟩, ?_⟩
  refine call_put rfl h3 4 (by omega) hle _ fun O4 l4 hl4 h4 => ?_
  intro off hoff
  refine ⟨fun _ _ => True, ⟨fun _ z hz => ⟨pU, Ent.refl _, trivial⟩, fun _ => ⟨pU, Ent.refl _, trivial⟩⟩, fun off2 _ _ => ?_⟩
  refine ⟨fun _ _ => True, ⟨fun _ z hz => ⟨pU, Ent.refl _, trivial⟩, fun _ => ⟨pU, Ent.refl _, trivial⟩⟩, fun off3 _ _ => ?_⟩
  refine ⟨⟨by omega, by omega⟩, ?_⟩
  refine call_put rfl h4 6 (by omega) hle _ fun O5 l5 hl5 h5 => ?_
  refine ⟨⟨by simp, by omega, by omega⟩, ?_⟩
  refine u_byte 2 rfl h5 (o := 8) rfl u8' rfl (by kernel_rfl) (by omega) fun O6 h6 => ?_
  refine ⟨⟨by simp, by omega, by omega⟩, ?_⟩
  refine u_byte 2 rfl h6 (o := 9) rfl u9 rfl (by kernel_rfl) (by simp; omega) fun O7 h7 => ?_
  refine ⟨⟨by omega, by omega⟩, ?_⟩
  refine copy_in rfl h7 (by simp; omega) 12 (by omega) hle _ fun O8 l8 _ hl8 h8 => ?_
  refine ⟨⟨by omega, by omega⟩, ?_⟩
  refine copy_in rfl h8 hl8 16 (by omega) hle _ fun O9 l9 _ hl9 h9 => ?_
  refine ⟨⟨by omega, by omega⟩, ?_⟩
  refine copy_in rfl h9 hl9 20 (by omega) hle _ fun Oa la _ hla ha => ?_
  refine ⟨⟨by omega, by omega⟩, ?_⟩
  refine call_read (by kernel_rfl) hb fun W4 h4' i4 s4 ig4 dg4 => ?_
  have rda := rd_chunk 2 rfl (fun h r => (ha h r).rd) h4' s4
  have hic := icheck_ok (c := 20 + x.opts.size + x.data.length) i4 rda (by omega)
  rw [hla] at hic
  refine Ok.mono hic fun r h' W' _ _ ⟨v, hv⟩ => ⟨v, hv, ?_⟩
  refine call_put rfl ha 10 (by omega) hle _ fun Ob lb hlb hbr => ?_
  refine v_append2 2 el22 rfl hbr hb (src_base hx.1 (by rw [bts_len]; simp) (bts_one _) slc22) (by unfold maxLen; omega) (by omega) fun A' cap' O' hO' => ?_
  exact q_none ⟨A', cap', rfl⟩
end Go.Proofs.SplitVc
