/- Calls that take several chunks; calls of function values. -/
import Derived.Test.YtkignenfgilepaaMut
namespace Go.SL
open Go Go.RowKit
set_option linter.unusedVariables false
set_option linter.unusedSimpArgs false
variable {P : Program} {c : Ctx}

def setMany : List Ch → List Nat → List Ch → List Ch
  | cs, n :: ns, x :: xs => setMany (cs.set n x) ns xs
  | cs, _, _ => cs
theorem setMany_set : ∀ (ns : List Nat) (xs cs : List Ch) (n : Nat) (x : Ch), n ∉ ns → setMany (cs.set n x) ns xs = (setMany cs ns xs).set n x := by
  intro ns
  induction ns with
  | nil => intro xs cs n x _; simp [setMany]
  | cons m ns ih =>
    intro xs cs n x hn
    cases xs with
    | nil => simp [setMany]
    | cons y xs =>
      simp only [setMany]
      have hne : n ≠ m := fun e => hn (by simp [e])
      rw [List.set_comm _ _ hne, ih _ _ _ _ (fun h => hn (by simp [h]))]
theorem setMany_get : ∀ (ns : List Nat) (xs cs : List Ch) (n : Nat), n ∉ ns → (setMany cs ns xs)[n]? = cs[n]? := by
  intro ns
  induction ns with
  | nil => intro xs cs n _; simp [setMany]
  | cons m ns ih =>
    intro xs cs n hn
    cases xs with
    | nil => simp [setMany]
    | cons y xs =>
      simp only [setMany]
      rw [ih _ _ _ (fun h => hn (by simp [h])), List.getElem?_set_ne (fun e => hn (by simp [e]))]
def picks (cs : List Ch) (ns : List Nat) : List Ch := ns.map fun n => cs.getD n .none
theorem satL_pick : ∀ (ns : List Nat) {cs : List Ch} {h : Hp}, ns.Nodup → (∀ n ∈ ns, n < cs.length) → satL cs h →
    ∃ hp hr, Disj hp hr ∧ h = hp.un hr ∧ satL (picks cs ns) hp ∧ ∀ xs hp', xs.length = ns.length → satL xs hp' → Disj hp' hr → satL (setMany cs ns xs) (hp'.un hr) := by
  intro ns
  induction ns with
  | nil =>
    intro cs h _ _ s
    refine ⟨Hp.emp, h, Disj.emp_left _, (Hp.emp_un h).symm, rfl, fun xs hp' hl sx d => ?_⟩
    have : xs = [] := List.eq_nil_of_length_eq_zero (by simpa using hl)
    subst this
    rw [show hp' = Hp.emp from sx, Hp.emp_un]
    exact s
  | cons n ns ih =>
    intro cs h hnd hlt s
    obtain ⟨hn, hnd'⟩ := List.nodup_cons.1 hnd
    have hnl : n < cs.length := hlt n (by simp)
    obtain ⟨h1, h2, d, rfl, s1, hset⟩ := satL_get s (i := n) (x := cs[n]) (List.getElem?_eq_getElem hnl)
    have s0 := hset .none Hp.emp rfl (Disj.emp_left _)
    rw [Hp.emp_un] at s0
    obtain ⟨hp, hr, dpr, rfl, sp, hre⟩ := ih (cs := cs.set n .none) hnd' (fun m hm => by simpa using hlt m (by simp [hm])) s0
    obtain ⟨d1p, d1r⟩ := disj_un_right.1 d
    have e : picks (cs.set n .none) ns = picks cs ns := by
      unfold picks
      apply List.map_congr_left
      intro m hm
      have hne : n ≠ m := fun e => hn (by rw [e]; exact hm)
      simp only [List.getD]
      rw [List.getElem?_set_ne hne]
    rw [e] at sp
    refine ⟨h1.un hp, hr, disj_un_left.2 ⟨d1r, dpr⟩, (Hp.un_assoc _ _ _).symm, ⟨h1, hp, d1p, rfl, by simpa [picks, List.getD, hnl] using s1, sp⟩, fun xs hp' hl sx dx => ?_⟩
    cases xs with
    | nil => simp at hl
    | cons x xs =>
      obtain ⟨a, b, dab, rfl, sa, sb⟩ := sx
      obtain ⟨da, db⟩ := disj_un_left.1 dx
      have s3 := hre xs b (by simpa using hl) sb db
      have hnone : (setMany (cs.set n .none) ns xs)[n]? = some .none := by
        rw [setMany_get _ _ _ _ hn, List.getElem?_set_self hnl]
      obtain ⟨k1, k2, dk, ek, sk, hk⟩ := satL_get s3 hnone
      rw [show k1 = Hp.emp from sk, Hp.emp_un] at ek
      subst ek
      have := hk x a sa (disj_un_right.2 ⟨dab, da⟩)
      rw [← setMany_set _ _ _ _ _ hn, List.set_set] at this
      rw [Hp.un_assoc]
      exact this
/-- A call that takes chunks, and hands others back in their places. -/
theorem call_sel (ns : List Nat) {r : OS} {f : FuncId} (hf : callB P f = true) {args : List Value} {cs : List Ch} (hnd : ns.Nodup) (hlt : ∀ n ∈ ns, n < cs.length) {fm : List (Nat × CF)} {k : r.ty → TupF fm → Prop} {g : Hp} (hb : Base c g)
    (H : ∀ W hp hr, In W hp → In W hr → satL (picks cs ns) hp → In W g → Disj hp hr → Disj hp g → Disj hr g → Ok P f args.toArray W hp fun v h' _ => ∃ x y xs g', v = r.val x ∧ Sub g' h' ∧ xs.length = ns.length ∧ satL xs g' ∧ applyF fm y cs = setMany cs ns xs ∧ k x y) :
    (hops P c).call r f args cs fm k :=
  call_any hf hb fun W h i s ig dg => by
    obtain ⟨hp, hr, d, rfl, sp, hre⟩ := satL_pick ns hnd hlt s
    obtain ⟨ip, ir⟩ := (in_un d).1 i
    obtain ⟨dg1, dg2⟩ := disj_un_left.1 dg
    exact ⟨hp, hr, rfl, d, Ok.mono (H W hp hr ip ir sp ig d dg1 dg2) fun v h' W' _ _ ⟨x, y, xs, g', e, hg, hl, hx, ha, hk⟩ =>
      ⟨x, y, g', e, fun b hb => sub_ne hg b hb, hg, fun dd => by rw [ha]; exact hre xs g' hl hx dd, hk⟩⟩
/-- A call of a function's value is one of the function. -/
theorem n_call {r : OS} {f : FuncId} {first captured args : Array Value} {cs : List Ch} {fm : List (Nat × CF)} {k : r.ty → TupF fm → Prop}
    (H : (hops P c).call r f (first ++ args ++ captured).toList cs fm k) : (hops P c).n r (callVal (.func (.func f) first captured) args) cs fm k := by
  intro W h hf n
  have e : (callVal (.func (.func f) first captured) args).run P W = (callFunc f (first ++ args ++ captured).toList.toArray).run P W := by
    rw [Array.toArray_toList]
    simp only [callVal, Deferred.ofValue, invoke, pure_bind]
  rcases H W h hf n with ⟨x, y, W', h', hr, hx⟩ | ⟨f', args', hr, hx⟩
  · exact .inl ⟨x, y, W', h', by rw [e]; exact hr, hx⟩
  · exact .inr ⟨f', args', by rw [e]; exact hr, hx⟩
end Go.SL
