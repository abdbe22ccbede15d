/- The law of a range over a function in the plain walk; the end of a function that holds one. -/
import Derived.Test.YthgjjfgedcaogaaDoorRangeLaw
import Derived.WalkKit
namespace Go.Proofs.YthgjjfgedcaogaaDoor
open Go.RowKit
variable {P : Program}

abbrev markD (D : Nat) : Deferred := { target := .collected D, args := #[] }

theorem calls_of_wp_marks {f : FuncId} {fn : Func} {c : Code} {args : Array Value} {w : World} {R : Ending → World → Prop} (hf : P.funcs[f]? = some fn) (hb : fn.body = some c)
    (h : c.wp P (bodyPostM Fence.wide 0 P fn R) { tmps := args ++ Array.replicate (fn.ntmps - args.size) undef, defers := [] } w) : Calls P f args w R :=
  callsIn_wide.1 (callsIn_of_wp_marks (n := 0) hf hb trivial (wpIn_wide.2 h))

theorem marks_ret {fn : Func} {R : Ending → World → Prop} {a : Act} {w : World} {v : Value} {D : Nat} (hd : a.defers = [markD D]) (hK : w.heap[D]? = some (.deferred (some [])))
    (hr : (results fn a.tmps).run P (w.putObj D (.deferred none)) = .ok v (w.putObj D (.deferred none))) (hR : R (.returned v) (w.putObj D (.deferred none))) : bodyPostM Fence.wide 0 P fn R .ret a w := by
  show LeavesInM Fence.wide 0 P fn a.tmps R a.defers .returning w
  rw [hd]
  exact ⟨by simp, .inl ⟨_, _, rfl, run_takeDeferred hK, ⟨_, hr, hR⟩⟩⟩
theorem marks_ret0 {fn : Func} {R : Ending → World → Prop} {a : Act} {w : World} {v : Value} (hd : a.defers = [])
    (hr : (results fn a.tmps).run P w = .ok v w) (hR : R (.returned v) w) : bodyPostM Fence.wide 0 P fn R .ret a w := by
  show LeavesInM Fence.wide 0 P fn a.tmps R a.defers .returning w
  rw [hd]
  exact ⟨_, hr, hR⟩

/-- The loop, where no round panics. -/
theorem wp_range {α : Type} {g : Operand} {ps : Array Tmp} {assign body : Code} {Q : Exit → Act → World → Prop} {a : Act} {w : World} {gf : Nat} {lb : Array Value}
    (hg : a.eval g = .func (.func gf) #[] lb) (eg : ∀ args w, (callFunc gf args).run P w = .ok (.enter gf args) w)
    {encs : α → Array Value} {n₀ : Nat} {Ok : List α → α → World → Prop} {S Sp : List α → Prop} {w0 : World} (hseq : SeqP P gf lb encs n₀ Ok S Sp w0)
    (hn₀ : n₀ ≤ w.heap.size) (hb0 : Below w0.heap.size w0 w) (hps : ∀ x, (encs x).size = ps.size)
    (hOk : ∀ pre x W l o o', Ok pre x W → W.heap[l]? = some o → o.isCells = false → Ok pre x (W.putObj l o'))
    (I : List α → World → Prop) (Ix : Code → List α → World → Prop) (hI : OwnFrom w.heap.size I) (hIx : ∀ c, OwnFrom w.heap.size (Ix c)) (h0 : I [] w)
    (Ax : List α → α → Act → World → Prop) (hAx : ∀ pre x a', OwnFrom w.heap.size (fun (_ : Unit) W => Ax pre x a' W))
    (hassign : ∀ (l : Nat) (pre : List α) (x : α) (W : World), I pre W → Ok pre x W → ∀ K : Act → World → Prop, (∀ a' W', KeepsFrom w.heap.size W W' → Below n₀ W W' → I pre W' → Ok pre x W' → Ax pre x a' W' → K a' W') →
      assign.wpIn (Fence.wide.inRound l) 0 P (Exit.then K (fun _ _ _ => False)) { tmps := (ps.zip (encs x)).foldl (fun t (p, v) => t.setIfInBounds p v) a.tmps, defers := [] } W)
    (hbody : ∀ (l : Nat) (pre : List α) (x : α) (a' : Act) (W : World), I pre W → Sp (pre ++ [x]) → Ok pre x W → Ax pre x a' W → body.wpIn (Fence.wide.inRound l) 0 P (bodyP w.heap.size n₀ I Ix (fun _ _ _ => False) (pre ++ [x]) W) a' W)
    (hdone : ∀ (xs : List α) (W : World), S xs → I xs W → W.heap[w.heap.size]? = some (.deferred (some [])) → Q .normal { a with defers := markD w.heap.size :: a.defers } W)
    (hstop : ∀ (c : Code) (pre : List α) (W : World), Sp pre → Ix c pre W → W.heap[w.heap.size]? = some (.deferred (some [])) → c.wp P Q { a with defers := markD w.heap.size :: a.defers } W) :
    (Code.rangeFunc g ps assign body).wp P Q a w := by
  refine (wpIn_wide (n := 0)).1 (wpIn_rangeFunc ?_)
  intro fn _
  obtain ⟨W1, he, hc⟩ := range_core (fn := fn) (a := a) (w := w) (ps := ps) (assign := assign) (body := body) hseq hn₀ hb0 hps hOk I Ix (fun _ _ _ => False) hI hIx (fun _ _ _ _ _ h _ _ => h) h0 (.inr fun _ _ _ h => h) Ax hAx hassign hbody
    (fun jump _ W => match jump with
      | none => Q .normal { a with defers := markD w.heap.size :: a.defers } W
      | some c => c.wp P Q { a with defers := markD w.heap.size :: a.defers } W) (fun _ _ => False)
    (fun xs W hS hi hk => hdone xs W hS hi hk) (fun c pre W hS hi hk => hstop c pre W hS hi hk) (fun _ _ _ _ h _ => h)
  refine ⟨w.heap.size + 1, [markD w.heap.size], W1, { target := .fn (.func gf) lb, args := #[.func (.yield (w.heap.size + 1)) #[] #[]] }, W1, gf, #[.func (.yield (w.heap.size + 1)) #[] #[]] ++ lb, W1, he, ?_, fun _ _ => trivial, ?_, fun h => by simp [Fence.wide] at h, ?_⟩
  · simp only [resolve, hg]
    simp [go_sem]
  · simp [invoke, go_sem, eg]
  · refine hc.mono ?_
    rintro e w₃ (⟨v, rfl, jump, w₄, xs, hend, hq⟩ | ⟨ch, rfl, h⟩)
    · refine ⟨jump, w₄, hend, ?_⟩
      cases jump with
      | none => exact hq
      | some c => exact wpIn_wide.2 hq
    · exact h.elim
end Go.Proofs.YthgjjfgedcaogaaDoor
