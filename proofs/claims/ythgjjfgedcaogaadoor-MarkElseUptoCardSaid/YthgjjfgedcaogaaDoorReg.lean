/- A region that draws its order, walked in the order of the text: each operation, calls that make memory too, gives one value wherever S holds, and keeps S. -/
import Derived.Test.YthgjjfgedcaogaaDoorHeldIn
namespace Go.Proofs.YthgjjfgedcaogaaDoor
open Go.RowKit Go.Proofs.YthgjjfgedcaogaaDoorW Go.Proofs.YthgjjfgedcaogaaDoorW.PrintLast
section
variable {n : Nat} {P : Program} {ops : Array Oper} {Q : Exit → Act → World → Prop} {md : Region.Mode} {S : World → Prop} {ds : List Nat}

/-- What an operation gives: v, and S again. -/
def Gives (n : Nat) (P : Program) (S : World → Prop) (v : Value) : Result Next → Prop
  | .ok (.value u) w => u = v ∧ S w
  | .ok .skip w => undef = v ∧ S w
  | .ok (.enter f args) w => CallsIn Fence.wide (n - 1) P f args w fun e w' => e = .returned v ∧ S w'
  | _ => False
def OpS (n : Nat) (P : Program) (ops : Array Oper) (S : World → Prop) (o : Oper) (v : Value) (a : Act) : Prop :=
  (Region.wanted o (yielded ops a.tmps) = true ∧ ∀ w, S w → Gives n P S v ((execOp a.eval o).run P w)) ∨ (Region.wanted o (yielded ops a.tmps) = false ∧ v = undef)
theorem OpS.of_same {o : Oper} {v : Value} {a a' : Act} (hy : OpS n P ops S o v a) (he : execOp a'.eval o = execOp a.eval o)
    (hw : Region.wanted o (yielded ops a'.tmps) = Region.wanted o (yielded ops a.tmps)) : OpS n P ops S o v a' := by
  unfold OpS at *
  rw [he, hw]
  exact hy
theorem OpS.run {i : Nat} {o : Oper} {v : Value} {a : Act} (hi : ops[i]? = some o) (hy : OpS n P ops S o v a) {K : Act → World → Prop} {w : World} (hS : S w) (h : ∀ w', S w' → K (a.put o.dst v) w') : wpOpIn Fence.wide n P ops Q i K a w := by
  unfold Go.wpOpIn
  simp only [hi]
  rcases hy with ⟨hw, hv⟩ | ⟨hw, rfl⟩
  · simp only [hw, if_true]
    unfold Oper.wpIn
    refine ⟨fun _ _ => trivial, ?_⟩
    rw [Fence.wide_round, Oper.semAt_none]
    have hv := hv w hS
    generalize (execOp a.eval o).run P w = r at *
    cases r with
    | ok x w' =>
      cases x <;> simp only [Gives, Oper.uponIn] at hv ⊢
      case value u => obtain ⟨rfl, hS'⟩ := hv; exact h _ hS'
      case skip => obtain ⟨rfl, hS'⟩ := hv; exact h _ hS'
      case enter f args =>
        refine ⟨fun hd => by simp [Fence.wide] at hd, CallsIn.mono hv fun e w'' he => ?_⟩
        obtain ⟨rfl, hS'⟩ := he
        exact h _ hS'
    | halt x w' => simp [Gives] at hv
  · simp only [hw, Bool.false_eq_true, if_false]
    exact ⟨fun _ _ => trivial, h _ hS⟩

/-- What is asked of operation i where it is taken. -/
structure Step (md : Region.Mode) (ops : Array Oper) (ds : List Nat) (listed : Array Bool) (i : Nat) (oi : Oper) : Prop where
  at_ : ops[i]? = some oi
  ready : i ∈ Region.ready md ops listed
  sel : ∀ (j : Nat) (o : Oper) cs b, ops[j]? = some o → o.op ≠ .select cs b
  free : ∀ j oj, ops[j]? = some oj → j ≠ i → listed.getD j true = false → (∀ e ∈ oj.after, Region.binds md e = true → e.on ≠ i) → oi.apart ops oj = true
  closed : ListedClosed md ops listed
  last : ∃ m, ∀ d ∈ ds, listed.getD d true = false → Region.reachB md ops i m d = true

def anyS (n : Nat) (P : Program) (md : Region.Mode) (ops : Array Oper) (Q : Exit → Act → World → Prop) (S : World → Prop) (ds : List Nat) : Nat → Array Bool → Act → Prop
  | 0, listed, a => (∀ j ∈ Region.ready md ops listed, j ∈ ds) ∧ ∀ w, S w → wpAnyIn Fence.wide n P md ops Q 0 listed a w
  | fuel + 1, listed, a => ((∀ j ∈ Region.ready md ops listed, j ∈ ds) ∧ ∀ w, S w → wpAnyIn Fence.wide n P md ops Q (fuel + 1) listed a w) ∨
    ∃ i oi v, Step md ops ds listed i oi ∧ OpS n P ops S oi v a ∧ anyS n P md ops Q S ds fuel (listed.setIfInBounds i true) (a.put oi.dst v)

theorem Step.not_last {listed : Array Bool} {i j : Nat} {oi : Oper} (h : Step md ops ds listed i oi) (hj : j ∈ Region.ready md ops listed) : j ∉ ds := fun hm => by
  obtain ⟨m, hd⟩ := h.last
  exact Region.reach_not_ready h.closed (hd j hm (mem_ready.1 hj).1) (mem_ready.1 h.ready).1 hj
theorem Step.apart {listed : Array Bool} {i j : Nat} {oi oj : Oper} (h : Step md ops ds listed i oi) (hj : j ∈ Region.ready md ops listed) (hji : j ≠ i) (hoj : ops[j]? = some oj) : oi.apart ops oj = true := by
  obtain ⟨hjun, oj', hoj', hall⟩ := mem_ready.1 hj
  rw [hoj] at hoj'
  cases hoj'
  refine h.free j oj hoj hji hjun fun e he hb heq => ?_
  have h1 := hall e he hb
  have hiun := (mem_ready.1 h.ready).1
  rw [heq] at h1
  rcases Nat.lt_or_ge i listed.size with h' | h'
  · simp [h'] at hiun h1; rw [hiun] at h1; cases h1
  · simp [Array.getElem?_eq_none h'] at h1
theorem Step.past {listed : Array Bool} {i j : Nat} {oi : Oper} (h : Step md ops ds listed i oi) (hj : j ∈ Region.ready md ops listed) (hji : j ≠ i) : Step md ops ds (listed.setIfInBounds j true) i oi where
  at_ := h.at_
  ready := ready_mono h.ready (Ne.symm hji)
  sel := h.sel
  free := fun k ok hk hki hun hno => by
    refine h.free k ok hk hki ?_ hno
    by_cases hjk : j = k
    · subst hjk; exact (mem_ready.1 hj).1
    · rw [getD_set_ne true hjk] at hun; exact hun
  closed := h.closed.set hj
  last := by
    obtain ⟨m, hd⟩ := h.last
    refine ⟨m, fun d hm hun => hd d hm ?_⟩
    by_cases hjk : j = d
    · subst hjk; exact (mem_ready.1 hj).1
    · rw [getD_set_ne true hjk] at hun; exact hun

/-- Whatever may come up next might have been taken next. -/
theorem anyS_pick : ∀ (fuel : Nat) {listed : Array Bool} {a : Act}, anyS n P md ops Q S ds (fuel + 1) listed a → ∀ {j : Nat} {oj : Oper}, j ∈ Region.ready md ops listed → j ∉ ds → ops[j]? = some oj →
    ∃ v, OpS n P ops S oj v a ∧ anyS n P md ops Q S ds fuel (listed.setIfInBounds j true) (a.put oj.dst v) := by
  intro fuel
  induction fuel with
  | zero =>
    rintro listed a (⟨hr, _⟩ | ⟨i, oi, v, hs, hy, H⟩) j oj hj hjd hoj
    · exact absurd (hr j hj) hjd
    · by_cases hji : j = i
      · subst hji
        rw [hs.at_] at hoj
        cases hoj
        exact ⟨v, hy, H⟩
      · exact absurd (H.1 j (ready_mono hj hji)) hjd
  | succ fuel ih =>
    rintro listed a (⟨hr, _⟩ | ⟨i, oi, v, hs, hy, H⟩) j oj hj hjd hoj
    · exact absurd (hr j hj) hjd
    · by_cases hji : j = i
      · subst hji
        rw [hs.at_] at hoj
        cases hoj
        exact ⟨v, hy, H⟩
      · obtain ⟨u, hyu, Hu⟩ := ih H (ready_mono hj hji) hjd hoj
        obtain ⟨h1, h2, h3⟩ := Oper.apart_spec (hs.apart hj hji hoj)
        refine ⟨u, hyu.of_same (execOp_put oj (fun cs b => hs.sel j oj cs b hoj) a oi.dst v h1).symm (wanted_put oj a oi.dst v h1).symm, .inr ⟨i, oi, v, hs.past hj hji, hy.of_same (execOp_put oi (fun cs b => hs.sel i oi cs b hs.at_) a oj.dst u h3) (wanted_put oi a oj.dst u h3), ?_⟩⟩
        rw [Array.setIfInBounds_comm _ _ hji, ← Act.put_comm a v u h2]
        exact Hu

theorem anyS_any : ∀ (fuel : Nat) {listed : Array Bool} {a : Act}, anyS n P md ops Q S ds fuel listed a → ∀ w, S w → wpAnyIn Fence.wide n P md ops Q fuel listed a w := by
  intro fuel
  induction fuel with
  | zero => exact fun h w hS => h.2 w hS
  | succ fuel ih =>
    rintro listed a h w hS
    rcases id h with ⟨_, hw⟩ | ⟨i, oi, v, hs, _, _⟩
    · exact hw w hS
    · refine ⟨fun h0 => (by have := hs.ready; rw [h0] at this; cases this), fun j hj => ?_⟩
      obtain ⟨_, oj, hoj, _⟩ := mem_ready.1 hj
      obtain ⟨u, hyu, Hu⟩ := anyS_pick fuel h hj (hs.not_last hj) hoj
      exact hyu.run hoj hS fun w' hS' => ih Hu w' hS'

def takeB (md : Region.Mode) (ops : Array Oper) (ds : List Nat) (listed : Array Bool) (i : Nat) : Bool :=
  Region.noSelect ops && (Region.free md ops listed i && ((Region.ready md ops listed).contains i && (Region.closedB md ops listed && Region.lastB md ops listed ds i)))
theorem step_of {listed : Array Bool} {i : Nat} {oi : Oper} (hi : ops[i]? = some oi) (h : takeB md ops ds listed i = true) : Step md ops ds listed i oi := by
  simp only [takeB, Bool.and_eq_true] at h
  obtain ⟨h1, h2, h3, h4, h5⟩ := h
  refine ⟨hi, by simpa using h3, Region.noSelect_spec h1, Region.free_spec hi h2, Region.closedB_spec h4, ops.size, fun d hd hun => ?_⟩
  have := List.all_eq_true.1 h5 d hd
  rw [hun] at this
  simpa using this

/-- Operation i gives a value and leaves the world alone. -/
theorem tk {v : Value} (i : Nat) {oi : Oper} {fuel : Nat} {listed : Array Bool} {a : Act} (hi : ops[i]? = some oi) (hc : takeB md ops ds listed i = true) (hw : Region.wanted oi (yielded ops a.tmps) = true)
    (hv : ∀ w, S w → (execOp a.eval oi).run P w = .ok (.value v) w) (h : anyS n P md ops Q S ds fuel (listed.setIfInBounds i true) (a.put oi.dst v)) : anyS n P md ops Q S ds (fuel + 1) listed a :=
  .inr ⟨i, oi, v, step_of hi hc, .inl ⟨hw, fun w hS => by rw [hv w hS]; exact ⟨rfl, hS⟩⟩, h⟩
/-- Operation i makes memory, or draws. -/
theorem tkW {v : Value} (i : Nat) {oi : Oper} {fuel : Nat} {listed : Array Bool} {a : Act} (hi : ops[i]? = some oi) (hc : takeB md ops ds listed i = true) (hw : Region.wanted oi (yielded ops a.tmps) = true)
    (hv : ∀ w, S w → Gives n P S v ((execOp a.eval oi).run P w)) (h : anyS n P md ops Q S ds fuel (listed.setIfInBounds i true) (a.put oi.dst v)) : anyS n P md ops Q S ds (fuel + 1) listed a :=
  .inr ⟨i, oi, v, step_of hi hc, .inl ⟨hw, hv⟩, h⟩
/-- Operation i is a call. -/
theorem tkC {v : Value} (i : Nat) {oi : Oper} {fuel : Nat} {listed : Array Bool} {a : Act} (hi : ops[i]? = some oi) (hc : takeB md ops ds listed i = true) (hw : Region.wanted oi (yielded ops a.tmps) = true)
    {f : FuncId} {args : Array Value} (hv : ∀ w, (execOp a.eval oi).run P w = .ok (.enter f args) w) (hcall : ∀ w, S w → Calls P f args w fun e w' => e = .returned v ∧ S w')
    (h : anyS n P md ops Q S ds fuel (listed.setIfInBounds i true) (a.put oi.dst v)) : anyS n P md ops Q S ds (fuel + 1) listed a :=
  .inr ⟨i, oi, v, step_of hi hc, .inl ⟨hw, fun w hS => by rw [hv w]; exact callsIn_wide.2 (hcall w hS)⟩, h⟩
/-- Operation i is behind a guard that is false. -/
theorem tkN (i : Nat) {oi : Oper} {fuel : Nat} {listed : Array Bool} {a : Act} (hi : ops[i]? = some oi) (hc : takeB md ops ds listed i = true) (hw : Region.wanted oi (yielded ops a.tmps) = false)
    (h : anyS n P md ops Q S ds fuel (listed.setIfInBounds i true) (a.put oi.dst undef)) : anyS n P md ops Q S ds (fuel + 1) listed a :=
  .inr ⟨i, oi, undef, step_of hi hc, .inr ⟨hw, rfl⟩, h⟩
/-- All have come up. -/
theorem tk0 {listed : Array Bool} {a : Act} (hr : Region.ready md ops listed = []) (h : ∀ w, S w → Q .normal a w) : ∀ fuel, anyS n P md ops Q S ds fuel listed a
  | 0 => ⟨by rw [hr]; simp, fun w hS => ⟨hr, h w hS⟩⟩
  | _ + 1 => .inl ⟨by rw [hr]; simp, fun w hS => ⟨fun _ => h w hS, by rw [hr]; simp⟩⟩
/-- Those that are left write: on with them as 'anyHI' does. -/
theorem tkL {listed : Array Bool} {a : Act} (hr : (Region.ready md ops listed).all (ds.contains ·) = true) : ∀ fuel, (∀ w, S w → anyHI n P md ops Q (fun _ => True) [] fuel listed a w) → anyS n P md ops Q S ds fuel listed a
  | 0, h => ⟨fun j hj => by simpa using List.all_eq_true.1 hr j hj, fun w hS => anyHI_any _ _ _ _ (h w hS)⟩
  | _ + 1, h => .inl ⟨fun j hj => by simpa using List.all_eq_true.1 hr j hj, fun w hS => anyHI_any _ _ _ _ (h w hS)⟩
theorem region_s {id : Nat} {a : Act} {w : World} (S : World → Prop) (ds : List Nat) (hm : P.follows .mixedOrders = true) (hS : S w.drew)
    (h : anyS n P .any ops Q S ds ops.size (Array.replicate ops.size false) a) : (Code.region id ops true).wpIn Fence.wide n P Q a w :=
  wpIn_region_any hm (anyS_any _ h _ hS)
theorem region_s0 {id : Nat} {a : Act} {w : World} (S : World → Prop) (ds : List Nat) (hm : P.follows .mixedOrders = true) (hS : S w.drew)
    (h : anyS 0 P .any ops Q S ds ops.size (Array.replicate ops.size false) a) : (Code.region id ops true).wp P Q a w :=
  (wpIn_wide (n := 0)).1 (region_s S ds hm hS h)
end
end Go.Proofs.YthgjjfgedcaogaaDoor
