/- FlowSends: the sender and the document's answer alike. -/
import Derived.Test.YtkignenfgilepaaFlU
import Derived.Test.YtkignenfgilepaaFlV
open Go Go.SL Go.Proofs
set_option maxRecDepth 100000
set_option linter.unusedVariables false
namespace Go.Proofs.FlowVc
theorem agg35 (cs : List Value) (off : Nat) : partL Try.prog 35 cs off = some (.agg ((cs.drop off).take 4).toArray) := by
  have h1 : isAggP Try.prog 35 = true := by kernel_rfl
  have h2 : sizeP Try.prog 35 = 4 := by kernel_rfl
  unfold partL
  rw [h1, h2]
abbrev oOp : OS := OS.one (.agg [.int .i64, .int .i64, .int .i64, .slc])
theorem ldB_op {c : Ctx} {cs : List Ch} {g : Hp} (hb : Base c g) {A : Option Addr} {os : List Opx} (R : Rd g A (os.flatMap Opx.cells)) (i : Nat) (hi : i < os.length) {kk : oOp.ty → Prop}
    (hk : kk (os[i].call, os[i].at_, os[i].n, (os[i].A, os[i].d.length, os[i].c), pU)) : (hops Try.prog c).ld oOp (Instr.loadAt 35 (.pointer (some ((oget A).add (i * 4))))) cs kk := by
  have hl := flat_len Opx.cells 4 cells4 os
  have h2 : sizeP Try.prog 35 = 4 := by kernel_rfl
  refine ldB_at hb R (by kernel_rfl) (k := i * 4) (r := oOp) (os[i].call, os[i].at_, os[i].n, (os[i].A, os[i].d.length, os[i].c), pU) (by omega) (by rw [h2]; omega) ?_ hk
  rw [agg35, flat_get Opx.cells 4 cells4 os i hi]
  rfl
section
variable {c : Ctx} {cs : List Ch} {b : Nat} {size : Int} {first : Nat} {all : List UInt8} {A : Option Addr} {cp : Nat}
theorem call_rwrite {g : Hp} (hb : Base c g) (e1 : cs[1]? = some (.blk b [Vi size, Vs A all.length cp, Vi first] 55)) (e7 : cs[7]? = some (.own (RdO A cp all))) (hf : first ≤ all.length) (hsz : ((all.length : Int) - first) ≤ size) (hs2 : size ≤ 70000) (hal : all.length ≤ 100000)
    {B : Option Addr} {s : List UInt8} {cb : Nat} (rd : Rd g B (bts s)) (hs : s.length ≤ cb) (hsl : s.length ≤ 100000) {kk : Nat} (hkk : min s.length (size - ((all.length - first : Nat) : Int)).toNat = kk)
    {k : (OS.tup [TS.one (Sc.int .i64), TS.one (Sc.int .i64)]).ty → TupF [(1, .blk [.int .i64, .slc, .int .i64]), (7, .own)] → Prop}
    (hk : ∀ A' c', k ((kk : Int), 0, pU) ((size, (A', (all ++ s.take kk).length, c'), (first : Int), pU), RdO A' c' (all ++ s.take kk), pU)) :
    (hops Try.prog c).call (OS.tup [TS.one (Sc.int .i64), TS.one (Sc.int .i64)]) 28 [Vp (some ⟨b, 0, none⟩), Vs B s.length cb] cs [(1, .blk [.int .i64, .slc, .int .i64]), (7, .own)] k := by
  refine call_sel [1, 7] (by kernel_rfl) (by decide) (fun m hm => ?_) hb fun W hp hr ip ir sp ig d1 d2 d3 => ?_
  · simp only [List.mem_cons, List.not_mem_nil, or_false] at hm
    rcases hm with rfl | rfl
    · exact (List.getElem?_eq_some_iff.1 e1).1
    · exact (List.getElem?_eq_some_iff.1 e7).1
  · obtain ⟨a1, k1, da, rfl, s1, a2, k2, db, rfl, s2, e5⟩ := sp
    obtain rfl : k2 = Hp.emp := e5
    rw [Hp.un_emp] at da ip d2 ⊢
    simp only [List.getD, e1, e7, Option.getD_some] at s1 s2
    have hw := refWrite_ok ig ip d2 (all := all) ⟨A, cp, a1, a2, da, rfl, s1, s2⟩ hf hsz hs2 hal rd hs hsl
    rw [hkk] at hw
    refine Ok.mono hw ?_
    rintro r h' W2 _ _ ⟨hr, A', c', g1, g2, d5, rfl, t1, t2⟩
    refine ⟨((kk : Int), 0, pU), ((size, (A', (all ++ s.take kk).length, c'), (first : Int), pU), RdO A' c' (all ++ s.take kk), pU), [.blk b [Vi size, Vs A' (all ++ s.take kk).length c', Vi first] 55, .own (RdO A' c' (all ++ s.take kk))], _, hr, Sub.refl _, rfl, ⟨g1, g2, d5, rfl, t1, satL_one t2⟩, ?_, hk A' c'⟩
    simp only [applyF, CF.ch, setMany, e1]
    rfl
theorem call_rpeek (e1 : cs[1]? = some (.blk b [Vi size, Vs A all.length cp, Vi first] 55)) (e7 : cs[7]? = some (.own (RdO A cp all))) (e6 : cs[6]? = some .none) (hal : all.length ≤ 100000) (x y : Int) (hx : -9223372036854775808 ≤ x ∧ x ≤ 9223372036854775807) (hy : -9223372036854775808 ≤ y ∧ y ≤ 9223372036854775807)
    {k : (OS.tup [TS.one .slc, TS.one (Sc.int .i64)]).ty → TupF [(6, .own)] → Prop}
    (hn : rpeekF first all x y = none → k ((none, 0, 0), 1, pU) ((fun h => h = Hp.emp), pU)) (hk : ∀ l, rpeekF first all x y = some l → ∀ A' c', k ((A', l.length, c'), 0, pU) (Row 5 1 (A', l.length, c') (bts l), pU)) :
    (hops Try.prog c).call (OS.tup [TS.one .slc, TS.one (Sc.int .i64)]) 30 [Vp (some ⟨b, 0, none⟩), Vi x, Vi y] cs [(6, .own)] k := by
  refine call_sel [1, 7, 6] (by kernel_rfl) (by decide) (fun m hm => ?_) (Base.emp c) fun W hp hr ip ir sp ig d1 d2 d3 => ?_
  · simp only [List.mem_cons, List.not_mem_nil, or_false] at hm
    rcases hm with rfl | rfl | rfl
    · exact (List.getElem?_eq_some_iff.1 e1).1
    · exact (List.getElem?_eq_some_iff.1 e7).1
    · exact (List.getElem?_eq_some_iff.1 e6).1
  · obtain ⟨a1, k1, da, rfl, s1, a2, k2, db, rfl, s2, a3, k3, dc, rfl, s3, e5⟩ := sp
    obtain rfl : k3 = Hp.emp := e5
    simp only [List.getD, e1, e7, e6, Option.getD_some] at s1 s2 s3
    obtain rfl : a3 = Hp.emp := s3
    rw [Hp.un_emp, Hp.un_emp] at *
    have hset : ∀ O : Hp → Prop, setMany cs [1, 7, 6] [.blk b [Vi size, Vs A all.length cp, Vi first] 55, .own (RdO A cp all), .own O] = cs.set 6 (.own O) := fun O => by
      simp only [setMany]
      rw [set_same e1, set_same e7]
    refine Ok.mono (refPeek_ok ip ⟨a1, a2, da, rfl, s1, s2⟩ hal x y hx hy) fun r h' W2 _ _ hr => ?_
    revert hr
    cases hp : rpeekF first all x y with
    | none =>
      rintro ⟨hr, g1, g2, d5, rfl, t1, t2⟩
      exact ⟨((none, 0, 0), 1, pU), ((fun h => h = Hp.emp), pU), [.blk b [Vi size, Vs A all.length cp, Vi first] 55, .own (RdO A cp all), .own fun h => h = Hp.emp], _, hr, Sub.refl _, rfl, ⟨g1, g2, d5, rfl, t1, g2, Hp.emp, Disj.emp_right _, (Hp.un_emp _).symm, t2, satL_one rfl⟩, (hset _).symm, hn hp⟩
    | some l =>
      rintro ⟨A', c', hr, g3, g4, d34, rfl, ⟨g1, g2, d5, rfl, t1, t2⟩, t3⟩
      obtain ⟨d14, d24⟩ := disj_un_left.1 d34
      exact ⟨((A', l.length, c'), 0, pU), (Row 5 1 (A', l.length, c') (bts l), pU), [.blk b [Vi size, Vs A all.length cp, Vi first] 55, .own (RdO A cp all), .own (Row 5 1 (A', l.length, c') (bts l))], _, hr, Sub.refl _, rfl, ⟨g1, g2.un g4, disj_un_right.2 ⟨d5, d14⟩, Hp.un_assoc _ _ _, t1, g2, g4, d24, rfl, t2, satL_one t3⟩, (hset _).symm, hk l hp A' c'⟩
end
end Go.Proofs.FlowVc
