/- Pieces together: plain laws on splitF. -/
import Derived.Test.YtocloghnfnkchaaDoorPlC
open Go Go.SL Go.Proofs
set_option maxRecDepth 100000
set_option linter.unusedVariables false
namespace Go.Proofs.SplitVc
/-- The bytes of the pieces ahead of one. -/
def dataOf (l : List Pd) : List UInt8 := l.flatMap (·.data)
theorem pieces_whole : ∀ (f : Nat) (x : Pd) (mtu : Int) (later : ByteArray) (l : List Pd), x.data.length < f → 68 ≤ mtu → x.opts.size ≤ 40 → later.size ≤ 40 → piecesF f x mtu later = some l →
    dataOf l = x.data ∧ (∃ q r, l = q :: r ∧ q.opts = x.opts) ∧
    ∀ i (h : i < l.length), l[i].off = x.off + ((dataOf (l.take i)).length : Int) ∧ l[i].id = x.id ∧ l[i].src = x.src ∧ l[i].dst = x.dst ∧ l[i].proto = x.proto ∧ l[i].ttl = x.ttl ∧ l[i].tos = x.tos ∧ l[i].df = x.df ∧
      (i + 1 = l.length → l[i].mf = x.mf) ∧ (i + 1 < l.length → l[i].mf = true ∧ l[i].data.length % 8 = 0 ∧ l[i].data.length ≠ 0) := by
  intro f
  induction f with
  | zero => intros; omega
  | succ f ih =>
    intro x mtu later l hf hm ho hl h
    unfold piecesF at h
    split at h
    · cases h
    · split at h
      · cases h
        refine ⟨by simp [dataOf], ⟨x, [], rfl, rfl⟩, fun i hi => ?_⟩
        have : i = 0 := by simpa using hi
        subst this
        simp [dataOf]
      · rename_i h1 h2
        obtain ⟨n, hn⟩ : ∃ n : Nat, (mtu - 20 - (x.opts.size : Int)) / 8 * 8 = (n : Int) := ⟨((mtu - 20 - (x.opts.size : Int)) / 8 * 8).toNat, by omega⟩
        rw [hn, Int.toNat_natCast] at h
        cases hr : piecesF f { x with off := x.off + (n : Int), opts := later, data := x.data.drop n } mtu later with
        | none => rw [hr] at h; cases h
        | some r =>
          rw [hr] at h
          simp only [Option.map_some, Option.some.injEq] at h
          subst h
          obtain ⟨e1, e2, e3⟩ := ih { x with off := x.off + (n : Int), opts := later, data := x.data.drop n } mtu later r (by simp only [List.length_drop]; omega) hm hl hl hr
          have hrl : 0 < r.length := by obtain ⟨q, r', e, _⟩ := e2; rw [e]; simp
          have hlen : (x.data.take n).length = n := by simp; omega
          refine ⟨?_, ⟨_, r, rfl, rfl⟩, fun i hi => ?_⟩
          · show x.data.take n ++ dataOf r = x.data
            rw [e1]
            simp
          · cases i with
            | zero =>
              refine ⟨by simp [dataOf], rfl, rfl, rfl, rfl, rfl, rfl, rfl, fun h => ?_, fun _ => ⟨rfl, ?_, ?_⟩⟩
              · rw [List.length_cons] at h; omega
              · show (x.data.take n).length % 8 = 0
                rw [hlen]; omega
              · show (x.data.take n).length ≠ 0
                rw [hlen]; omega
            | succ i =>
              obtain ⟨a1, a2, a3, a4, a5, a6, a7, a8, a9, a10⟩ := e3 i (by simpa using hi)
              refine ⟨?_, a2, a3, a4, a5, a6, a7, a8, fun h => a9 (by simpa using h), fun h => a10 (by simpa using h)⟩
              rw [List.getElem_cons_succ, a1]
              simp only [List.take_succ_cons, dataOf, List.flatMap_cons, List.length_append, hlen]
              omega
theorem split_whole {x : Pd} {mtu : Int} (hd : x.data.length ≤ 1000000) (h : (splitF x mtu).2 = 0) :
    dataOf (splitF x mtu).1 = x.data ∧ (∃ q r, (splitF x mtu).1 = q :: r ∧ q.opts = x.opts) ∧
    ∀ i (h : i < (splitF x mtu).1.length), (splitF x mtu).1[i].off = x.off + ((dataOf ((splitF x mtu).1.take i)).length : Int) ∧ (splitF x mtu).1[i].id = x.id ∧ (splitF x mtu).1[i].src = x.src ∧ (splitF x mtu).1[i].dst = x.dst ∧
      (splitF x mtu).1[i].proto = x.proto ∧ (splitF x mtu).1[i].ttl = x.ttl ∧ (splitF x mtu).1[i].tos = x.tos ∧ (splitF x mtu).1[i].df = x.df ∧
      (i + 1 = (splitF x mtu).1.length → (splitF x mtu).1[i].mf = x.mf) ∧ (i + 1 < (splitF x mtu).1.length → (splitF x mtu).1[i].mf = true ∧ (splitF x mtu).1[i].data.length % 8 = 0 ∧ (splitF x mtu).1[i].data.length ≠ 0) := by
  obtain ⟨hc, hm, hx⟩ := split_cases h
  obtain ⟨hsum, ho4, ho40, h0, h1⟩ := checkD_sum hc hd
  rcases hx with ⟨hs, hl⟩ | ⟨hs, hdf, hlt, hp⟩
  · rw [hl]
    refine ⟨by simp [dataOf], ⟨x, [], rfl, rfl⟩, fun i hi => ?_⟩
    have : i = 0 := by simpa using hi
    subst this
    simp [dataOf]
  · obtain ⟨hl4, hlo⟩ := later_sizes hc hd
    exact pieces_whole _ x mtu _ _ (by omega) hm ho40 (by omega) hp
theorem split_fit {x : Pd} {mtu : Int} (hd : x.data.length ≤ 1000000) (h : (splitF x mtu).2 = 0) : ∀ q ∈ (splitF x mtu).1, checkD q = 0 ∧ 20 + (q.opts.size : Int) + (q.data.length : Int) ≤ mtu ∧ q.data.length ≤ x.data.length ∧ q.opts.size ≤ 40 := by
  obtain ⟨hc, hm, hx⟩ := split_cases h
  obtain ⟨hsum, ho4, ho40, h0, h1⟩ := checkD_sum hc hd
  rcases hx with ⟨hs, hl⟩ | ⟨hs, hdf, hlt, hp⟩
  · rw [hl]
    intro q hq
    rw [List.mem_singleton.1 hq]
    exact ⟨hc, hs, Nat.le_refl _, ho40⟩
  · obtain ⟨hl4, hlo⟩ := later_sizes hc hd
    obtain ⟨hw, h8, hs4, hd4, _⟩ := checkD_zero hc
    rw [Int.tmod_eq_emod_of_nonneg h0] at h8
    obtain ⟨hne, hg⟩ := pieces_good _ x mtu _ _ (by omega) hm hl4 hlo ho4 ho40 (fun o h1 h2 => by
      simp [withinL] at hw ⊢
      omega) h0 h8 hs4 hd4 hsum hp
    intro q hq
    obtain ⟨a1, a2, a3, a4⟩ := hg q hq
    exact ⟨a1, a2, a4, a3⟩
end Go.Proofs.SplitVc
