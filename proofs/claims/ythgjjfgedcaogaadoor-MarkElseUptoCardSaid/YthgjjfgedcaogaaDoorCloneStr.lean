/- slices.Clone of a slice of strings: a fresh slice that reads the same. -/
import Derived.Test.YthgjjfgedcaogaaDoorBase
namespace Go.Proofs.YthgjjfgedcaogaaDoor
open Go.RowKit Go.Proofs.YthgjjfgedcaogaaDoorW.PrintWords Go.Proofs.YthgjjfgedcaogaaDoorW.PrintLast Go.Proofs.YthgjjfgedcaogaaDoorW.PrintMore

set_option maxHeartbeats 400000 in
theorem CloneStr_calls (w : World) (v : Value) (l : List Str) (hv : Rd kStr w v l) (hl : l.length * 16 ≤ 140737488355328) :
    Calls Tryd.prog 23 #[v] w fun e w' => ∃ v', e = .returned v' ∧ kStr.R 9 w' w.heap.size (fun _ => True) v' l ∧ Below w.heap.size w w' := by
  have hu := Tryd.underlying32
  obtain ⟨A, c, rfl, hc, hr⟩ := hv
  have HC := Aside0.mk (Kd.C_alloc hr (.cells #[] 9))
  clear hr
  cases A with
  | none =>
    have h0 : l = [] := by
      obtain ⟨h1, _, h2⟩ := HC.out
      cases l with
      | nil => rfl
      | cons x r => obtain ⟨ad, h, _⟩ := h2 (by simp); cases h
    subst h0
    have heq : ∀ W, (binOp .eql 32 (.slice none 0 c) (.slice none 0 0)).run Tryd.prog W = .ok (.bool true) W := fun W => Lib.run_eql_slice_nil W _ 9 none 0 c 0 0 hu
    go_enter Tryd.func23, Tryd.ntmps23
    go_wp2
    go_ret
    exact ⟨_, rfl, Kd.R_nil _ _ _ _ _, Below.refl _ _⟩
  | some ad =>
    have heq : ∀ W, (binOp .eql 32 (.slice (some ad) l.length c) (.slice none 0 0)).run Tryd.prog W = .ok (.bool false) W := fun W => Lib.run_eql_slice_nil W _ 9 (some ad) l.length c 0 0 hu
    have H0 := Aside0.mk (R_empty kStr w 9)
    have HB0 := Aside0.mk (below1 w (.cells #[] 9))
    go_enter Tryd.func23, Tryd.ntmps23
    go_wp2_with (at_builtin; refine Kd.R_append_rows kStr (w0 := w) (Rr := kStr.K (w.alloc (.cells #[] 9))) w.heap.size rfl (.tmp 5) (.tmp 6) 32 9 (.string ⟨#[]⟩) 16 rfl Tryd.underlying32 infoStr rfl (by decide) (by omega) _ [] l _ _ _ (fun _ => True) (fun _ => False) rfl rfl H0.out HC.out (fun _ _ h => h) (fun _ h => h.elim) (fun _ _ => trivial) HB0.out (by simp) (by simp; omega) ?_; intro v1 w1 hR hB hg hat)
    go_ret
    exact ⟨_, rfl, hR, hB⟩
end Go.Proofs.YthgjjfgedcaogaaDoor
