/- A range over a function, for any program: what an iterator promises ('SeqP'), and the loop's law. What is yielded may lead to memory that the iterator has just made ('Ok' says what is known of it), and a round may leave by a panic ('Ip'). -/
import Derived.Test.YthgjjfgedcaogaaDoorProg
import Derived.RangeFuncNested
import Derived.RangeFuncBound
import Derived.RangeFuncCalls
import Derived.RangeFuncLeaves
import Derived.RangeFuncWrites
import Derived.RangeFuncBox
namespace Go.Proofs.YthgjjfgedcaogaaDoor
open Go.RowKit
variable {P : Program}

/-- One round, out of its body's walk; a panic goes up to whoever called yield. -/
def roundPostP (P : Program) (l : Nat) (R : Ending → World → Prop) : Exit → Act → World → Prop
  | .panic ch, a, w => a.defers = [] ∧ R (.panicked ch) w
  | e, a, w => roundPost P l R e a w

theorem round_of_wp {n l : Nat} {f : FuncId} {tmps : Array Value} {assign body : Code} {w : World} {R : Ending → World → Prop} (hf : (∃ fn, P.funcs[f]? = some fn) ∨ ∀ ch w', ¬ R (.panicked ch) w')
    (h : assign.wpIn (Fence.wide.inRound l) n P (Exit.then (fun a₁ w₁ => ∃ w₂, (Instr.beginRound l).run P w₁ = .ok () w₂ ∧ body.wpIn (Fence.wide.inRound l) n P (roundPostP P l R) a₁ w₂) (fun _ _ _ => False))
      { tmps := tmps, defers := [] } w) :
    RoundIn Fence.wide n P l f tmps assign body w R := by
  refine ⟨trivial, fun c cs hr => ?_⟩
  let b : Frame := { (default : Frame) with fn := f, kind := .normal, roundOf := some l }
  have hb0 : Frame.round l f tmps assign body .normal = b.atR { tmps := tmps, defers := [] } [.code assign, .beginRound, .code body] := by
    simp [Frame.round, Frame.atR, b]
  have hr' : (Fence.wide.inRound l).room ((c :: cs).length + 1 + n) := hr
  obtain ⟨e, a₁, w₁, hq, harr⟩ := h b [.beginRound, .code body] (c :: cs) rfl trivial hr'
  rw [← hb0] at harr
  cases e with
  | normal =>
    obtain ⟨w₂, hbr, hbody⟩ := hq
    have s1 : StepsIn (Machine.fenced P (Fence.wide.inRound l)) P (lone (b.atR a₁ [.beginRound, .code body]) (c :: cs) w₁) (lone (b.atR a₁ [.code body]) (c :: cs) w₂) :=
      .one (fenced_calm (fr := b.atR a₁ [.beginRound, .code body]) trivial hr' rfl) (stepR_beginRound rfl hbr)
    obtain ⟨e₂, a₂, w₃, hq₂, harr₂⟩ := hbody b [] (c :: cs) rfl trivial hr'
    cases e₂ with
    | normal =>
      obtain ⟨v, w₄, hend, hR⟩ := hq₂
      exact ⟨.returned v, w₄, hR, (StepsIn.trans harr s1).trans (StepsIn.trans harr₂ (.one (fenced_calm (fr := b.atR a₂ []) trivial hr' rfl) (stepR_round_end rfl rfl hend)))⟩
    | ret =>
      obtain ⟨v, w₄, hend, hR⟩ := hq₂
      obtain ⟨k₁, hs⟩ := harr₂.2 rfl
      exact ⟨.returned v, w₄, hR, (StepsIn.trans harr s1).trans (StepsIn.trans hs (.one (fenced_calm (fr := b.atR a₂ (.code .ret :: k₁)) trivial hr' rfl) (stepR_round_ret rfl rfl hend)))⟩
    | exit id =>
      obtain ⟨v, w₄, hend, hR⟩ := hq₂
      obtain ⟨k₁, hk, hs⟩ := harr₂.2 rfl rfl
      exact ⟨.returned v, w₄, hR, (StepsIn.trans harr s1).trans (StepsIn.trans hs (.one (fenced_calm (fr := b.atR a₂ (.code (.exit id) :: k₁)) trivial hr' rfl) (stepR_round_exit rfl rfl hk hend)))⟩
    | goto t =>
      obtain ⟨v, w₄, hend, hR⟩ := hq₂
      obtain ⟨k₁, hk, hs⟩ := harr₂.2 rfl rfl
      exact ⟨.returned v, w₄, hR, (StepsIn.trans harr s1).trans (StepsIn.trans hs (.one (fenced_calm (fr := b.atR a₂ (.code (.goto t) :: k₁)) trivial hr' rfl) (stepR_round_goto rfl rfl hk hend)))⟩
    | panic chain =>
      obtain ⟨hd, hR⟩ := hq₂
      obtain ⟨fn, hfn⟩ := hf.resolve_right (fun hn => hn _ _ hR)
      obtain ⟨todo, hs⟩ := harr₂
      have hl : ({ b.atR a₂ todo with mode := .panicking chain } : Frame).leaving P w₃ (.panicked chain) := ⟨rfl, hd, fn, hfn⟩
      exact ⟨.panicked chain, w₃, hR, (StepsIn.trans harr s1).trans (StepsIn.trans hs (stepsIn_wide.2 (.one (step_leave_panicked hl))))⟩
    | outgrown => exact hq₂.elim
  | exit id => exact hq.elim
  | goto t => exact hq.elim
  | ret => exact hq.elim
  | panic chain => exact hq.elim
  | outgrown => exact hq.elim

/-- WHAT AN ITERATOR PROMISES, the function value '.func (.func g) #[] lb' made in w: whatever the rounds keep of J (which minds no block that is no cells, from the call's first block on), it yields 'encs x' one by one, 'Ok pre x' holding where it does; all of them ('S xs'), or a part ('Sp pre') where a round said 'no more', or panicked. What lies below n₀ each round that goes on leaves as it is. -/
def SeqP {α : Type} (P : Program) (g : Nat) (lb : Array Value) (encs : α → Array Value) (n₀ : Nat) (Ok : List α → α → World → Prop) (S Sp : List α → Prop) (w : World) : Prop :=
  ∀ (l : Nat) (J Jx : List α → World → Prop) (Jp : List PanicEntry → List α → World → Prop) (W : World), Below w.heap.size w W → OwnFrom W.heap.size J → OwnFrom W.heap.size Jx → (∀ ch, OwnFrom W.heap.size (Jp ch)) →
    (∀ pre x W1, J pre W1 → Sp (pre ++ [x]) → Ok pre x W1 → YieldAt Fence.wide 0 P l (encs x) W1 fun e W' =>
      (e = .returned (.bool true) ∧ J (pre ++ [x]) W' ∧ Below n₀ W1 W') ∨ (e = .returned (.bool false) ∧ Jx (pre ++ [x]) W') ∨ (∃ ch, e = .panicked ch ∧ Jp ch (pre ++ [x]) W')) →
    J [] W →
    CallsIn Fence.wide 0 P g (#[.func (.yield l) #[] #[]] ++ lb) W fun e W' =>
      ((∃ v, e = .returned v) ∧ ((∃ xs, S xs ∧ J xs W') ∨ (∃ pre, Sp pre ∧ Jx pre W'))) ∨ (∃ ch pre, e = .panicked ch ∧ Sp pre ∧ Jp ch pre W')

/-- How a round's body may be left. -/
def bodyP {α : Type} (B n₀ : Nat) (I : List α → World → Prop) (Ix : Code → List α → World → Prop) (Ip : List PanicEntry → List α → World → Prop) (xs : List α) (W : World) : Exit → Act → World → Prop
  | .normal, _, W' => KeepsFrom B W W' ∧ Below n₀ W W' ∧ I xs W'
  | .ret, _, W' => KeepsFrom B W W' ∧ Ix .ret xs W'
  | .exit id, _, W' => KeepsFrom B W W' ∧ Ix (.exit id) xs W'
  | .goto t, _, W' => KeepsFrom B W W' ∧ Ix (.goto t) xs W'
  | .panic ch, a, W' => a.defers = [] ∧ KeepsFrom B W W' ∧ Ip ch xs W'
  | .outgrown, _, _ => False

/-- THE LOOP's CORE: a record laid, the iterator called; what stands behind it. -/
theorem range_core {α : Type} {ps : Array Tmp} {assign body : Code} {a : Act} {w : World} {fn : FuncId} {gf : Nat} {lb : Array Value}
    {encs : α → Array Value} {n₀ : Nat} {Ok : List α → α → World → Prop} {S Sp : List α → Prop} {w0 : World} (hseq : SeqP P gf lb encs n₀ Ok S Sp w0)
    (hn₀ : n₀ ≤ w.heap.size) (hb0 : Below w0.heap.size w0 w) (hps : ∀ x, (encs x).size = ps.size)
    (hOk : ∀ pre x W l o o', Ok pre x W → W.heap[l]? = some o → o.isCells = false → Ok pre x (W.putObj l o'))
    (I : List α → World → Prop) (Ix : Code → List α → World → Prop) (Ip : List PanicEntry → List α → World → Prop) (hI : OwnFrom w.heap.size I) (hIx : ∀ c, OwnFrom w.heap.size (Ix c)) (hIp : ∀ c, OwnFrom w.heap.size (Ip c)) (h0 : I [] w)
    (hfn : (∃ f, P.funcs[fn]? = some f) ∨ ∀ ch xs W, ¬ Ip ch xs W)
    (Ax : List α → α → Act → World → Prop) (hAx : ∀ pre x a', OwnFrom w.heap.size (fun (_ : Unit) W => Ax pre x a' W))
    (hassign : ∀ (l : Nat) (pre : List α) (x : α) (W : World), I pre W → Ok pre x W → ∀ K : Act → World → Prop, (∀ a' W', KeepsFrom w.heap.size W W' → Below n₀ W W' → I pre W' → Ok pre x W' → Ax pre x a' W' → K a' W') →
      assign.wpIn (Fence.wide.inRound l) 0 P (Exit.then K (fun _ _ _ => False)) { tmps := (ps.zip (encs x)).foldl (fun t (p, v) => t.setIfInBounds p v) a.tmps, defers := [] } W)
    (hbody : ∀ (l : Nat) (pre : List α) (x : α) (a' : Act) (W : World), I pre W → Sp (pre ++ [x]) → Ok pre x W → Ax pre x a' W → body.wpIn (Fence.wide.inRound l) 0 P (bodyP w.heap.size n₀ I Ix Ip (pre ++ [x]) W) a' W)
    (Q : Option Code → List α → World → Prop) (Qp : List PanicEntry → World → Prop)
    (hdone : ∀ (xs : List α) (W : World), S xs → I xs W → W.heap[w.heap.size]? = some (.deferred (some [])) → Q none xs W)
    (hstop : ∀ (c : Code) (pre : List α) (W : World), Sp pre → Ix c pre W → W.heap[w.heap.size]? = some (.deferred (some [])) → Q (some c) pre W)
    (hpan : ∀ ch (pre : List α) (W : World), Sp pre → Ip ch pre W → W.heap[w.heap.size]? = some (.deferred (some [])) → Qp ch W) :
    ∃ W1, (Instr.enterLoop fn a.tmps ps assign body none).run P w = .ok (w.heap.size + 1, [{ target := .collected w.heap.size, args := #[] }]) W1 ∧
      CallsIn Fence.wide 0 P gf (#[.func (.yield (w.heap.size + 1)) #[] #[]] ++ lb) W1 fun e w₃ =>
        (∃ v, e = .returned v ∧ ∃ jump w₄ xs, (Instr.endLoop (w.heap.size + 1)).run P w₃ = .ok jump w₄ ∧ Q jump xs w₄) ∨ (∃ ch, e = .panicked ch ∧ Qp ch w₃) := by
  obtain ⟨rec, hrec⟩ : ∃ rec : LoopState → Option Code → Loop, rec = fun st pe => { state := st, pending := pe, fn, tmps := a.tmps, params := ps, assign, body, defers := w.heap.size } := ⟨_, rfl⟩
  obtain ⟨W1, hW1⟩ : ∃ W1, (w.alloc (.deferred (some []))).alloc (.loop (rec .ready none)) = W1 := ⟨_, rfl⟩
  have hL1 : W1.heap[w.heap.size + 1]? = some (.loop (rec .ready none)) := by
    rw [← hW1]; have := World.alloc_heap_new (w.alloc (.deferred (some []))) (.loop (rec .ready none)); rwa [World.size_alloc] at this
  have hK1 : W1.heap[w.heap.size]? = some (.deferred (some [])) := by
    rw [← hW1]; exact (Below.heap_alloc _ _ _ (by simp)).trans (World.alloc_heap_new w _)
  have hI1 : I [] W1 := by rw [← hW1]; exact hI.alloc _ (hI.alloc _ h0)
  have hs1 : W1.heap.size = w.heap.size + 2 := by rw [← hW1]; simp
  have hb1 : Below w0.heap.size w0 W1 := by
    rw [← hW1]; exact hb0.trans ((((Below.refl _ w).alloc (Nat.le_refl _) _).alloc (by simp) _).mono hb0.size)
  refine ⟨W1, by rw [← hW1, hrec]; exact run_enterLoop_outer _ _ _ _ _, ?_⟩
  have low : ∀ {A B : World} {row : Option Nat} {k : Nat} {o : Obj}, A.grownBy B row → (∀ r, row = some r → W1.heap.size ≤ r ∧ ∃ o : Obj, A.heap[r]? = some o ∧ o.isCells = false) → k < W1.heap.size → A.heap[k]? = some o → B.heap[k]? = some o :=
    fun hg hr hk ho => (hg.block _ (Array.getElem?_eq_some_iff.1 ho).1 (fun e => by have := (hr _ e.symm).1; omega)).trans ho
  have up : ∀ {A : World} {row : Option Nat}, (∀ r, row = some r → W1.heap.size ≤ r ∧ ∃ o : Obj, A.heap[r]? = some o ∧ o.isCells = false) → ∀ r, row = some r → w.heap.size ≤ r ∧ ∃ o : Obj, A.heap[r]? = some o ∧ o.isCells = false :=
    fun hr r e => ⟨by have := (hr r e).1; omega, (hr r e).2⟩
  have put2 : ∀ {W : World} {o o' : Obj}, W.heap[w.heap.size + 1]? = some o → Below n₀ W (W.putObj (w.heap.size + 1) o') := fun {W o o'} h =>
    (Below.refl n₀ W).grown (grownBy_putObj' W (w.heap.size + 1) o') (by have := (Array.getElem?_eq_some_iff.1 h).1; omega) (fun k e => by cases e; omega)
  refine (hseq (w.heap.size + 1)
    (fun pre W => I pre W ∧ W.heap[w.heap.size + 1]? = some (.loop (rec .ready none)) ∧ W.heap[w.heap.size]? = some (.deferred (some [])))
    (fun pre W => ∃ c, Ix c pre W ∧ W.heap[w.heap.size + 1]? = some (.loop (rec .done (some c))) ∧ W.heap[w.heap.size]? = some (.deferred (some [])))
    (fun ch pre W => Ip ch pre W ∧ W.heap[w.heap.size]? = some (.deferred (some [])))
    W1 hb1
    (fun s A B row hs hg hr => ⟨hI s A B row hs.1 hg (up hr), low hg hr (by omega) hs.2.1, low hg hr (by omega) hs.2.2⟩)
    (fun s A B row hs hg hr => by
      obtain ⟨c, hc, hl, hk⟩ := hs
      exact ⟨c, hIx c s A B row hc hg (up hr), low hg hr (by omega) hl, low hg hr (by omega) hk⟩)
    (fun ch s A B row hs hg hr => ⟨hIp ch s A B row hs.1 hg (up hr), low hg hr (by omega) hs.2⟩)
    ?_ ⟨hI1, hL1, hK1⟩).mono ?_
  · rintro pre x W ⟨hi, hl, hk⟩ hlen hok
    have hlt : w.heap.size + 1 < W.heap.size := (Array.getElem?_eq_some_iff.1 hl).1
    have hy := run_yield (P := P) (args := encs x) hl (by rw [hrec]; exact hps x)
    rw [hrec] at hy
    refine ⟨fn, _, assign, body, hy, round_of_wp (hfn.imp id (fun hn ch W' => by rintro (⟨h, _⟩ | ⟨h, _⟩ | ⟨ch', h, h', _⟩); cases h; cases h; cases h; exact hn _ _ _ h')) (hassign _ pre x W hi hok _ ?_)⟩
    intro a' Wa hka hba hia hoa hxa
    have hla : Wa.heap[w.heap.size + 1]? = some (.loop (rec .ready none)) := hka.same _ _ (by omega) hl rfl
    have hda : Wa.heap[w.heap.size]? = some (.deferred (some [])) := hka.same _ _ (Nat.le_refl _) hk rfl
    have hlta : w.heap.size + 1 < Wa.heap.size := (Array.getElem?_eq_some_iff.1 hla).1
    refine ⟨_, run_beginRound hla (by rw [hrec]), ?_⟩
    have hl2 : (Wa.putObj (w.heap.size + 1) (.loop { rec .ready none with state := .busy })).heap[w.heap.size + 1]? = some (.loop { rec .ready none with state := .busy }) := World.putObj_heap_same hlta
    have hk2 : (Wa.putObj (w.heap.size + 1) (.loop { rec .ready none with state := .busy })).heap[w.heap.size]? = some (.deferred (some [])) := (World.putObj_heap_other (by omega)).trans hda
    have hax2 := (hAx pre x a').putObj (s := ()) (.loop { rec .ready none with state := .busy }) hxa (by omega) hla rfl
    refine wpIn_mono (hbody _ pre x a' _ (hI.putObj _ hia (by omega) hla rfl) hlen (hOk _ _ _ _ _ _ hoa hla rfl) hax2) ?_
    have fin : ∀ (jump : Option Code) (W3 : World), KeepsFrom w.heap.size (Wa.putObj (w.heap.size + 1) (.loop { rec .ready none with state := .busy })) W3 →
        (Instr.endRound (w.heap.size + 1) jump).run P W3 = .ok (.bool jump.isNone) (W3.putObj (w.heap.size + 1) (.loop (rec (if jump.isNone then .ready else .done) jump))) ∧
        W3.heap[w.heap.size + 1]? = some (.loop { rec .ready none with state := .busy }) ∧
        (W3.putObj (w.heap.size + 1) (.loop (rec (if jump.isNone then .ready else .done) jump))).heap[w.heap.size + 1]? = some (.loop (rec (if jump.isNone then .ready else .done) jump)) ∧
        (W3.putObj (w.heap.size + 1) (.loop (rec (if jump.isNone then .ready else .done) jump))).heap[w.heap.size]? = some (.deferred (some [])) := fun jump W3 hk3 => by
      have hl3 := hk3.same _ _ (by omega) hl2 rfl
      have := run_endRound (P := P) jump hl3
      rw [hrec] at this ⊢
      exact ⟨this, by rw [hrec] at hl3; exact hl3, World.putObj_heap_same (Array.getElem?_eq_some_iff.1 hl3).1, (World.putObj_heap_other (by omega)).trans (hk3.same _ _ (Nat.le_refl _) hk2 rfl)⟩
    rintro e a3 W3 hp
    cases e with
    | normal =>
      obtain ⟨hk3, hkp3, hi3⟩ := hp
      obtain ⟨hr, hl3, hl4, hk4⟩ := fin none W3 hk3
      exact ⟨_, _, hr, .inl ⟨rfl, ⟨hI.putObj _ hi3 (by omega) hl3 rfl, hl4, hk4⟩, ((hba.trans (put2 hla)).trans hkp3).trans (put2 hl3)⟩⟩
    | ret =>
      obtain ⟨hk3, hi3⟩ := hp
      obtain ⟨hr, hl3, hl4, hk4⟩ := fin (some .ret) W3 hk3
      exact ⟨_, _, hr, .inr (.inl ⟨rfl, .ret, (hIx _).putObj _ hi3 (by omega) hl3 rfl, hl4, hk4⟩)⟩
    | exit id =>
      obtain ⟨hk3, hi3⟩ := hp
      obtain ⟨hr, hl3, hl4, hk4⟩ := fin (some (.exit id)) W3 hk3
      exact ⟨_, _, hr, .inr (.inl ⟨rfl, .exit id, (hIx _).putObj _ hi3 (by omega) hl3 rfl, hl4, hk4⟩)⟩
    | goto t =>
      obtain ⟨hk3, hi3⟩ := hp
      obtain ⟨hr, hl3, hl4, hk4⟩ := fin (some (.goto t)) W3 hk3
      exact ⟨_, _, hr, .inr (.inl ⟨rfl, .goto t, (hIx _).putObj _ hi3 (by omega) hl3 rfl, hl4, hk4⟩)⟩
    | panic ch =>
      obtain ⟨hd, hk3, hip⟩ := hp
      exact ⟨hd, .inr (.inr ⟨ch, rfl, hip, hk3.same _ _ (Nat.le_refl _) hk2 rfl⟩)⟩
    | outgrown => exact hp.elim
  · rintro e W2 (⟨⟨v, rfl⟩, (⟨xs, hS, hi, hl, hk⟩ | ⟨pre, hSp, c, hi, hl, hk⟩)⟩ | ⟨ch, pre, rfl, hSp, hip, hk⟩)
    · exact .inl ⟨v, rfl, none, _, xs, by have := run_endLoop (P := P) hl (by rw [hrec]; simp); rw [hrec] at this; exact this, hdone xs _ hS (hI.putObj _ hi (by omega) hl rfl) ((World.putObj_heap_other (by omega)).trans hk)⟩
    · exact .inl ⟨v, rfl, some c, _, pre, by have := run_endLoop (P := P) hl (by rw [hrec]; simp); rw [hrec] at this; exact this, hstop c pre _ hSp ((hIx c).putObj _ hi (by omega) hl rfl) ((World.putObj_heap_other (by omega)).trans hk)⟩
    · exact .inr ⟨ch, rfl, hpan ch pre _ hSp hip hk⟩
end Go.Proofs.YthgjjfgedcaogaaDoor
