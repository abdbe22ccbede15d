/- Words for walks within a round of a range over a function: append, and what rows survive there. -/
import Derived.Test.YthgjjfgedcaogaaDoorBase
import Derived.Test.YthgjjfgedcaogaaDoorRangeWp
import Derived.OwnWalkIn
import Derived.Maps.OwnIn
import Derived.TacticsInMore
import Derived.LoopNIn
import Derived.LoopIn
import Derived.Shelf.Abstract
import Derived.Shelf.RegionOpen
namespace Go.Proofs.YthgjjfgedcaogaaDoor
open Go.RowKit Go.Proofs.YthgjjfgedcaogaaDoorW.PrintWords Go.Proofs.YthgjjfgedcaogaaDoorW.PrintLast Go.Proofs.YthgjjfgedcaogaaDoorW.PrintMore

section
variable {F : Fence} {n : Nat} {P : Program} {ops : Array Oper} {rest : List Oper} {o : Oper} {a : Act} {Q : Exit → Act → World → Prop} {α : Type}
theorem R_append_in (d : Kd α) {w0 W : World} (base : Nat) (hgd : o.guard = none) (s x : Operand) (t e : TypeId) (z : Value) (bytes : Nat)
    (ho : o.op = .call { callee := .builtin .append, args := #[s, x], argTypes := #[t, t] })
    (ht : P.underlying t = some (.slice e)) (hinfo : (P.info? e).map (fun i => (i.zero, i.size, i.bytes)) = some (some z, d.sz, bytes)) (hz : z.cells.size = d.sz) (hs0 : 0 < d.sz) (hb0 : 0 < bytes)
    (v : Value) (xs : List α) (p : α) (cs : List Value) (ok okp : Nat → Prop) (hs : a.eval s = v) (hx : a.eval x = .slice (some ⟨W.heap.size, 0, none⟩) 1 1) (hp : d.M W base okp p cs) (hokp : ∀ k, okp k → ok k ∧ some k ≠ v.ownBlock) (hfresh : ∀ k, W.heap.size ≤ k → ok k)
    (HO : d.R e W base ok v xs) (HB : Below base w0 W) (hbase : base ≤ W.heap.size) (hl : (xs.length + 1) * bytes ≤ 140737488355328)
    (h : ∀ v1 w1, d.R e w1 base ok v1 (xs ++ [p]) → Below base w0 w1 → W.grownBy w1 v.ownBlock → (v1.ownBlock = v.ownBlock ∨ ∃ b, v1.ownBlock = some b ∧ W.heap.size ≤ b) → wpListIn F n P ops Q rest (a.put o.dst v1) w1) :
    wpListIn F n P ops Q (o :: rest) a (W.alloc (.cells cs.toArray e)) := by
  obtain ⟨h0, inner, hown, hr⟩ := HO
  obtain ⟨i0, hi, hzz⟩ := Option.map_eq_some_iff.1 hinfo
  simp only [Prod.mk.injEq] at hzz
  obtain ⟨hz0, hz1, hz2⟩ := hzz
  have hlen : xs.length + 1 ≤ 140737488355328 := Nat.le_trans (Nat.le_mul_of_pos_right _ hb0) hl
  have hys := d.K_len (d.K_of_M hp)
  refine wpListIn_append_own_at (W.alloc (.cells cs.toArray e)) hgd s x t ho base e i0 z d.sz bytes ht hi hz0 hz1 hz2 hz hs0 v xs.length inner hs (hown.alloc _) ⟨W.heap.size, 0, none⟩ 1 1 cs hx (by rw [hys]; simp)
    (by simpa using World.news_of_block (cs := cs.toArray) (t := e) (fr := (0, 0)) (heap_alloc_new W (.cells cs.toArray e))) (d.K_one (d.K_of_M hp)) (by simp only [maxLen]; omega) hl (by simp; omega) ?_
  intro v1 w1 hown1 hg _ hat
  have hg1 := World.grownBy.trans (World.grownBy_alloc W (.cells cs.toArray e) v.ownBlock) hg
  have hat1 : v1.ownBlock = v.ownBlock ∨ ∃ b, v1.ownBlock = some b ∧ W.heap.size ≤ b := by
    rcases hat with hat | hat
    · exact .inl hat
    · exact .inr ⟨_, hat, by simp⟩
  exact h v1 w1 (Kd.R_appended h0 hr hp hokp hfresh hown1 hg1 hat1) ((HB.alloc hbase _).grown hg (by simp; omega) (own_base hown)) hg1 hat1
end

theorem isCells_of {o : Obj} {cs : Array Value} {t : TypeId} {fr : Nat × Nat} (h : o = .cells cs t fr) : o.isCells = true := by subst h; rfl
/-- What is made of cells survives the turn of a block that is none. -/
theorem R_turn {α : Type} {d : Kd α} {e base : Nat} {ok : Nat → Prop} {W W' : World} {v : Value} {xs : List α} (h : d.R e W base ok v xs) {row : Option Nat} (hg : W.grownBy W' row)
    (hr : ∀ r, row = some r → ∃ o : Obj, W.heap[r]? = some o ∧ o.isCells = false) : d.R e W' base ok v xs :=
  Kd.R_mono (Kd.R_step (Kd.R_bound h) (fun k hk hlt => hg.block k hlt (fun e => by
    obtain ⟨_, _, _, q, _, cells, hc⟩ := hk
    obtain ⟨o, ho, hn⟩ := hr k e.symm
    rw [hc] at ho
    cases ho
    simp [Obj.isCells] at hn))) (fun _ hk => hk.1)
theorem R_keeps {α : Type} {d : Kd α} {e base : Nat} {ok : Nat → Prop} {W W' : World} {v : Value} {xs : List α} (h : d.R e W base ok v xs) (hg : W.grownBy W' v.ownBlock) : KeepsOthers W W' :=
  KeepsOthers.of_grownBy hg fun j o ej hj => by
    obtain ⟨_, _, hown, _⟩ := h
    rcases hown.2 with ⟨rfl, _⟩ | ⟨g, cap, cur, rfl, hb, hc, _⟩
    · simp [Value.ownBlock] at ej
    · have : g = j := by simpa [Value.ownBlock] using ej
      subst this
      rw [hj] at hc
      cases hc
      rfl
theorem blk_turn {W W' : World} {g : Nat} {cs : Array Value} {t : TypeId} (h : W.heap[g]? = some (.cells cs t (0, 0))) {row : Option Nat} (hg : W.grownBy W' row)
    (hr : ∀ r, row = some r → ∃ o : Obj, W.heap[r]? = some o ∧ o.isCells = false) : W'.heap[g]? = some (.cells cs t (0, 0)) :=
  (hg.block g (blk_lt h) (fun e => by
    obtain ⟨o, ho, hn⟩ := hr g e.symm
    rw [h] at ho
    cases ho
    simp [Obj.isCells] at hn)).trans h
theorem R_putObj {α : Type} {d : Kd α} {e base : Nat} {ok : Nat → Prop} {W : World} {v : Value} {xs : List α} (h : d.R e W base ok v xs) {l : Nat} {o o' : Obj} (hl : W.heap[l]? = some o) (ho : o.isCells = false) : d.R e (W.putObj l o') base ok v xs :=
  R_turn h (grownBy_putObj' W l o') (fun r e => by cases e; exact ⟨o, hl, ho⟩)
theorem below_turn {n₀ B : Nat} {w W W' : World} (h : Below n₀ w W) {row : Option Nat} (hg : W.grownBy W' row) (hB : n₀ ≤ B) (hn : n₀ ≤ W.heap.size)
    (hr : ∀ r, row = some r → B ≤ r ∧ ∃ o : Obj, W.heap[r]? = some o ∧ o.isCells = false) : Below n₀ w W' :=
  h.grown hg hn (fun k e => by have := (hr k e).1; omega)
end Go.Proofs.YthgjjfgedcaogaaDoor
