/- Contracts: parts that are sorted stay. -/
import Derived.Test.YtkignenfgilepaaFlH
import Derived.Test.YtkignenfgilepaaFlI
open Go Go.SL Go.Proofs
set_option maxRecDepth 100000
set_option linter.unusedVariables false
namespace Go.Proofs.FlowVc
theorem isNaN_ok {W : World} (x : Int) : Ok Try.prog 85 #[Vi x] W Hp.emp fun r h' _ => r = Vo false := by
  refine exec_ok' (P := Try.prog) {} (fn := Try.f85) (by kernel_rfl) (args := [.raw (Vi x)]) (cs := []) (vs := [Vi x]) rfl (by kernel_rfl) (In.emp W) rfl (R := fun r h' => r = Vo false) ?_
  rw [v85]
  exact q_none (by simp [retV])
def cmpI (x y : Int) : Int := if x < y then -1 else if x > y then 1 else 0
theorem cmp_ok {W : World} (x y : Int) : Ok Try.prog 57 #[Vi x, Vi y] W Hp.emp fun r h' _ => r = Vi (cmpI x y) := by
  refine exec_ok' (P := Try.prog) {} (fn := Try.f57) (by kernel_rfl) (args := [.raw (Vi x), .raw (Vi y)]) (cs := []) (vs := [Vi x, Vi y]) rfl (by kernel_rfl) (In.emp W) rfl (R := fun r h' => r = Vi (cmpI x y)) ?_
  rw [v57]
  refine call_read (by kernel_rfl) (Base.emp _) fun W1 h1 i1 s1 ig dg => Ok.mono (isNaN_ok x) fun r h' W' _ _ hr => ⟨_, hr, ?_⟩
  refine call_read (by kernel_rfl) (Base.emp _) fun W1 h1 i1 s1 ig dg => Ok.mono (isNaN_ok y) fun r h' W' _ _ hr => ⟨_, hr, ?_⟩
  refine ⟨(fun h => by cases h), fun _ => ⟨(fun h => by cases h), fun _ => ⟨fun h => q_none ?_, fun h => ⟨fun h' => q_none ?_, fun h' => q_none ?_⟩⟩⟩⟩
  · have := of_decide_eq_true h
    unfold cmpI; rw [if_pos this]; rfl
  · have := of_decide_eq_false h
    have := of_decide_eq_true h'
    unfold cmpI; rw [if_neg (by omega), if_pos (by omega)]; rfl
  · have := of_decide_eq_false h
    have := of_decide_eq_false h'
    unfold cmpI; rw [if_neg (by omega), if_neg (by omega)]; rfl
theorem less_ok {W : World} (x : Int) (A : Option Addr) (n c : Nat) (y : Int) (B : Option Addr) (m d : Nat) : Ok Try.prog 56 #[.agg #[Vi x, Vs A n c], .agg #[Vi y, Vs B m d]] W Hp.emp fun r h' _ => r = Vi (cmpI x y) := by
  refine exec_ok' (P := Try.prog) a56 (fn := Try.f56) (by kernel_rfl) (args := [.raw (.agg #[Vi x, Vs A n c]), .raw (.agg #[Vi y, Vs B m d])]) (cs := [.none, .none]) (vs := [.agg #[Vi x, Vs A n c], .agg #[Vi y, Vs B m d]]) rfl (by kernel_rfl) (In.emp W) (satL_none (satL_none rfl)) (R := fun r h' => r = Vi (cmpI x y)) ?_
  rw [v56]
  intro b1 b2
  refine call_read (by kernel_rfl) (Base.emp _) fun W1 h1 i1 s1 ig dg => Ok.mono (cmp_ok x y) fun r h' W' _ _ hr => ⟨_, hr, q_none rfl⟩
abbrev Fless : Value := .func (.func 56) #[] #[]
theorem call_less {c : Ctx} {cs : List Ch} (x : Int) (A : Option Addr) (n cp : Nat) (y : Int) (B : Option Addr) (m d : Nat) {k : oI.ty → PUnit → Prop} (hk : k (cmpI x y) pU) :
    (hops Try.prog c).n oI (callVal Fless #[.agg #[Vi x, Vs A n cp], .agg #[Vi y, Vs B m d]]) cs [] k :=
  n_call (call_read (by kernel_rfl) (Base.emp c) fun W h i s ig dg => Ok.mono (less_ok x A n cp y B m d) fun r h' W' _ _ hr => ⟨_, hr, hk⟩)
def Srt (ps : List Pt) : Prop := ∀ i (h : i + 1 < ps.length), ps[i].at_ ≤ ps[i + 1].at_
theorem insertion_ok {W : World} {g : Hp} (hg : In W g) {A : Option Addr} {c : Nat} {ps : List Pt} (hr : Rd g A (ps.flatMap Pt.cells)) (hs : Srt ps) (hn : ps.length ≤ 1000000) :
    Ok Try.prog 105 #[Vs A ps.length c, Vi 0, Vi ps.length, Fless] W Hp.emp fun r h' _ => r = .tuple #[] := by
  have hb : Base ⟨W, Hp.emp⟩ g := ⟨hg, Disj.emp_left _⟩
  refine exec_ok' (P := Try.prog) a105 (fn := Try.f105) (by kernel_rfl) (args := [.raw (Vs A ps.length c), .raw (Vi 0), .raw (Vi ps.length), .raw Fless]) (cs := []) (vs := [Vs A ps.length c, Vi 0, Vi ps.length, Fless]) rfl (by kernel_rfl) (In.emp W) rfl (R := fun r h' => r = .tuple #[]) ?_
  rw [v105]
  intro x hx
  refine ⟨fun x _ => ∃ i : Nat, 1 ≤ i ∧ x.1 = (i : Int), fun x _ => ps.length - x.1.toNat, ⟨pU, ent_nil, 1, by omega, by rw [hx]; rfl⟩, ?_⟩
  rintro ⟨x1, _⟩ _ ⟨i, hi, hxi⟩
  simp only at hxi
  subst hxi
  refine ⟨fun h => ?_, fun h => q_none rfl⟩
  have hlt : i < ps.length := by have := of_decide_eq_true h; simp only at this; omega
  have hA : A ≠ none := hr.some (by rw [flat_len Pt.cells 2 cells2]; omega)
  refine ⟨fun x _ => x.1 = (i : Int), fun _ _ => 0, ⟨pU, ent_nil, rfl⟩, ?_⟩
  rintro ⟨x2, _⟩ _ hx2
  simp only at hx2
  subst hx2
  refine ⟨fun _ => ⟨⟨hA, by simp only; omega, by simp only; omega⟩, ?_⟩, fun h => absurd (of_decide_eq_false h) (by simp only; omega)⟩
  simp only
  rw [Int.toNat_natCast]
  refine ldB_part hb hr i hlt ?_
  rw [wr_id (n := (i : Int) - 1) (by omega) (by omega), show (i : Int) - 1 = ((i - 1 : Nat) : Int) by omega]
  refine ⟨⟨hA, by omega, by omega⟩, ?_⟩
  rw [Int.toNat_natCast]
  refine ldB_part hb hr (i - 1) (by omega) ?_
  refine call_less _ _ _ _ _ _ _ _ ⟨?_, fun x hx => ?_⟩
  · have h1 := hs (i - 1) (by omega)
    have e : i - 1 + 1 = i := by omega
    simp only [e] at h1
    rw [decide_eq_false_iff_not]
    simp only [cmpI]
    rw [if_neg (by omega)]
    split <;> omega
  · refine ⟨pU, ent_nil, ⟨i + 1, by omega, ?_⟩, ?_⟩
    · rw [hx, wr_id (by omega) (by omega)]; omega
    · rw [hx, wr_id (by omega) (by omega)]; omega
theorem len64_ok {W : World} (x : Int) (h0 : 0 ≤ x) (h1 : x < 256) : Ok Try.prog 114 #[.int .u64 x] W Hp.emp fun r h' _ => ∃ l, r = Vi l := by
  refine exec_ok' (P := Try.prog) a114 (fn := Try.f114) (by kernel_rfl) (args := [.raw (.int .u64 x)]) (cs := []) (vs := [.int .u64 x]) rfl (by kernel_rfl) (In.emp W) rfl (R := fun r h' => ∃ l, r = Vi l) ?_
  rw [v114]
  have hw : IntKind.u8.wrap x = x := by rw [IntKind.wrap_u8]; omega
  rw [hw]
  exact ⟨by simp; omega, by simp; omega, by simp; omega, ⟨h0, by omega⟩, q_none ⟨_, rfl⟩⟩
theorem len_ok {W : World} (x : Int) (h0 : 0 ≤ x) (h1 : x < 256) : Ok Try.prog 84 #[.int .u64 x] W Hp.emp fun r h' _ => ∃ l, r = Vi l := by
  refine exec_ok' (P := Try.prog) a84 (fn := Try.f84) (by kernel_rfl) (args := [.raw (.int .u64 x)]) (cs := []) (vs := [.int .u64 x]) rfl (by kernel_rfl) (In.emp W) rfl (R := fun r h' => ∃ l, r = Vi l) ?_
  rw [v84]
  refine call_read (by kernel_rfl) (Base.emp _) fun W1 h1' i1 s1 ig dg => Ok.mono (len64_ok x h0 h1) fun r h' W' _ _ ⟨l, hr⟩ => ⟨l, hr, q_none ⟨l, rfl⟩⟩
theorem pdq_ok {W : World} {g : Hp} (hg : In W g) {A : Option Addr} {c : Nat} {ps : List Pt} (hr : Rd g A (ps.flatMap Pt.cells)) (hs : Srt ps) (hn : ps.length ≤ 12) (l : Int) :
    Ok Try.prog 83 #[Vs A ps.length c, Vi 0, Vi ps.length, Vi l, Fless] W Hp.emp fun r h' _ => r = .tuple #[] := by
  have hb : Base ⟨W, Hp.emp⟩ g := ⟨hg, Disj.emp_left _⟩
  refine exec_ok' (P := Try.prog) a83 (fn := Try.f83) (by kernel_rfl) (args := [.raw (Vs A ps.length c), .raw (Vi 0), .raw (Vi ps.length), .raw (Vi l), .raw Fless]) (cs := []) (vs := [Vs A ps.length c, Vi 0, Vi ps.length, Vi l, Fless]) rfl (by kernel_rfl) (In.emp W) rfl (R := fun r h' => r = .tuple #[]) ?_
  rw [v83]
  refine ⟨fun x _ => x = (l, 0, true, true, (ps.length : Int), pU), fun x _ => 0, ⟨pU, ent_nil, rfl⟩, ?_⟩
  rintro x _ rfl
  simp only
  refine ⟨by rw [wr_id (by omega) (by omega)]; simp; omega, ?_⟩
  refine call_read (by kernel_rfl) hb fun W1 h1' i1 s1 ig dg => Ok.mono (insertion_ok ig hr hs (by omega)) fun r h' W' _ _ hr => ⟨pU, hr, q_none rfl⟩
theorem sort_ok {W : World} {g : Hp} (hg : In W g) {A : Option Addr} {c : Nat} {ps : List Pt} (hr : Rd g A (ps.flatMap Pt.cells)) (hs : Srt ps) (hn : ps.length ≤ 12) :
    Ok Try.prog 55 #[Vs A ps.length c, Fless] W Hp.emp fun r h' _ => r = .tuple #[] := by
  have hb : Base ⟨W, Hp.emp⟩ g := ⟨hg, Disj.emp_left _⟩
  refine exec_ok' (P := Try.prog) a55 (fn := Try.f55) (by kernel_rfl) (args := [.raw (Vs A ps.length c), .raw Fless]) (cs := []) (vs := [Vs A ps.length c, Fless]) rfl (by kernel_rfl) (In.emp W) rfl (R := fun r h' => r = .tuple #[]) ?_
  rw [v55]
  intro x hx
  subst hx
  have hw : IntKind.u64.wrap (ps.length : Int) = (ps.length : Int) := by simp [IntKind.wrap, IntKind.bits, IntKind.signed]; omega
  rw [hw]
  refine call_read (by kernel_rfl) (Base.emp _) fun W1 h1' i1 s1 ig dg => Ok.mono (len_ok _ (by omega) (by omega)) fun r h' W' _ _ ⟨l, hl⟩ => ⟨l, hl, ?_⟩
  refine call_read (by kernel_rfl) hb fun W1 h1' i1 s1 ig dg => Ok.mono (pdq_ok ig hr hs hn l) fun r h' W' _ _ hr => ⟨pU, hr, q_none rfl⟩
theorem cloneP_ok {W : World} {g : Hp} (hg : In W g) {A : Option Addr} {c : Nat} {ps : List Pt} (hr : Rd g A (ps.flatMap Pt.cells)) (hn : ps.length ≤ 1000000) :
    Ok Try.prog 53 #[Vs A ps.length c] W Hp.emp fun r h' _ => ∃ A' c', r = Vs A' ps.length c' ∧ Row 104 2 (A', ps.length, c') (ps.flatMap Pt.cells) h' := by
  have hb : Base ⟨W, Hp.emp⟩ g := ⟨hg, Disj.emp_left _⟩
  refine exec_ok' (P := Try.prog) a53 (fn := Try.f53) (by kernel_rfl) (args := [.raw (Vs A ps.length c)]) (cs := [.none, .none]) (vs := [Vs A ps.length c]) rfl (by kernel_rfl) (In.emp W) (satL_none (satL_none rfl)) (R := fun r h' => ∃ A' c', r = Vs A' ps.length c' ∧ Row 104 2 (A', ps.length, c') (ps.flatMap Pt.cells) h') ?_
  rw [v53]
  have hl := flat_len Pt.cells 2 cells2 ps
  refine ⟨fun h => ?_, fun h b => ?_⟩
  · have h0 : ps.length = 0 := by
      rcases Nat.eq_zero_or_pos ps.length with e | e
      · exact e
      · exact absurd (by simpa using h) (hr.some (by omega))
    have : ps = [] := List.eq_nil_of_length_eq_zero h0
    subst this
    exact q_none ⟨none, 0, rfl, Row.nil _ _ _⟩
  · refine v_append0 1 el43 rfl hb (src_base hr hl (fun u hu => ?_) slc43) (by unfold maxLen; omega) (by omega) fun A' c' => ?_
    · obtain ⟨p, _, hp⟩ := List.mem_flatMap.1 hu
      simp only [Pt.cells, List.mem_cons, List.not_mem_nil, or_false] at hp
      rcases hp with e | e <;> subst e <;> rfl
    · exact q_own 1 rfl fun h' o => ⟨A', c', rfl, o⟩
theorem own_ok {W : World} {g : Hp} (hg : In W g) (p : Pt) (hp : p.ok g) (hn : p.d.length ≤ 1000000) :
    Ok Try.prog 54 #[.agg #[Vi p.at_, Vs p.A p.d.length p.c]] W Hp.emp fun r h' _ => ∃ A' c', r = .agg #[Vi p.at_, Vs A' p.d.length c'] ∧ Row 5 1 (A', p.d.length, c') (bts p.d) h' := by
  have hb : Base ⟨W, Hp.emp⟩ g := ⟨hg, Disj.emp_left _⟩
  refine exec_ok' (P := Try.prog) a54 (fn := Try.f54) (by kernel_rfl) (args := [.raw (.agg #[Vi p.at_, Vs p.A p.d.length p.c])]) (cs := [.none, .none, .none]) (vs := [.agg #[Vi p.at_, Vs p.A p.d.length p.c]]) rfl (by kernel_rfl) (In.emp W) (satL_none (satL_none (satL_none rfl)))
    (R := fun r h' => ∃ A' c', r = .agg #[Vi p.at_, Vs A' p.d.length c'] ∧ Row 5 1 (A', p.d.length, c') (bts p.d) h') ?_
  rw [v54]
  intro b1 b2
  refine call_make 2 (by kernel_rfl) rfl hb fun W' h1 i1 s1 ig d1 => ?_
  refine Ok.mono (Clone_ok ig hp.1 (fun eA => ?_) (by omega)) fun r h' W'' _ _ ⟨A', c', hr, _, ho⟩ => ⟨(A', p.d.length, c'), _, hr, ho, q_own 2 rfl fun h' o => ⟨A', c', rfl, o⟩⟩
  rcases Nat.eq_zero_or_pos p.d.length with e | e
  · exact List.eq_nil_of_length_eq_zero e
  · exact absurd eA (hp.1.some (by rw [bts_len]; omega))
end Go.Proofs.FlowVc
