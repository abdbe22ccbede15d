/- THE STATEMENT tartanlaw24.MarkOnly: for all records whose values and letters number at most 1048576 together, the law returns true and leaves its argument as it was; the listed variables hold what the program's text lays. -/
import Derived.Test.YthgjjfgedcaogaaDoorMarkRow
import Derived.Test.YthgjjfgedcaogaaDoorMarkOnly
import Derived.Test.YthgjjfgedcaogaaDoorCards
import Derived.Test.YthgjjfgedcaogaaDoorTie
namespace Go.Proofs.YthgjjfgedcaogaaDoor
open Go.ChangeShapes Go.WideShapes Go.ChangeAt Go.RowKit Go.Proofs.YthgjjfgedcaogaaDoorW.PrintWords Go.Proofs.YthgjjfgedcaogaaDoorW.PrintLast Go.Proofs.YthgjjfgedcaogaaDoorW.PrintMore

theorem MarkOnly_contract (H : Type) (enc : TypeId × Value → H) (W : World) (base : Nat) (args : Array Value) (ds gs : List (DataW H)) (before : List MemPlace)
    (hval : ∀ (j : Nat) t v, Tryd.f3.params[j]? = some t → args[j]? = some v → Value.okWide Tryd.prog W .any base t v)
    (hW : DataW.Whole enc Tryd.prog Tryd.f3.params.toList Rows.markOnlySpec.vars false W args.toList ds gs before) (hk : Rows.uptoSmall H (ds ++ gs) = true) (hL : laidMetH Tryd.prog Rows.markOnlyRow.laid W) :
    Calls Tryd.prog 3 args W fun e W' => ∃ v, e = .returned v ∧ Rows.markOnlySpec.post enc Tryd.prog Tryd.f3 false true false false W args v W' := by
  have hW' := hW
  obtain ⟨p, q, hA0, hV, rfl, hfz, hnd⟩ := hW
  have hA : DataW.TrodAll enc Tryd.prog W 0 (fun _ => true) true Tryd.f3.params.toList args.toList ds p := hA0
  rw [Tryd.params3] at hA hval
  obtain ⟨v0, vs0, d0, ds0, p0, q0, hargs, rfl, rfl, h0, r0⟩ := trodAll_cons hA
  obtain ⟨rfl, rfl, rfl⟩ := trodAll_nil r0
  obtain rfl : args = #[v0] := by cases args; simp_all
  obtain ⟨rfl, rfl⟩ := trodVars_none hV
  obtain ⟨a, len, cap, rfl⟩ := okWide_slice Tryd.underlying22 (hval 0 22 v0 rfl rfl)
  obtain ⟨fuel, hf⟩ := h0
  obtain ⟨l, ⟨A, c, hv, hc, hC⟩, hμ, -⟩ := oRows H enc W _ _ fuel _ _ hf
  simp only [Value.cells, List.cons.injEq, and_true, Value.slice.injEq] at hv
  obtain ⟨rfl, rfl, rfl⟩ := hv
  have hb := bulk_le hk
  dsimp only at hμ
  simp only [List.append_nil, Rows.uptoBulkAll] at hb
  refine (MarkOnly_calls W _ l ⟨_, _, rfl, hc, hC⟩ (env_of hL) (BRows_of (by omega))).mono fun e W' ⟨he, bel⟩ => ?_
  subst he
  exact ⟨_, rfl, post_true rfl rfl Tryd.underlying4 rfl (by kernel_rfl) hW' bel⟩

set_option maxRecDepth 100000 in
theorem MarkOnly_laid (os : Os) : laidMet Tryd.prog Rows.markOnlyRow.laid ((World.laidAll Tryd.prog os Rows.markOnlyRow.laid).forCall (fun _ _ => 0) ⟨#[], #[.slice none 0 0], []⟩).memory :=
  laidMet_laidAll _ (by kernel_rfl) (by kernel_rfl)
set_option maxRecDepth 100000 in
theorem MarkOnly_reads (os : Os) {H : Type} (enc : TypeId × Value → H) : ∃ places, DataW.whole enc Tryd.prog ((World.laidAll Tryd.prog os Rows.markOnlyRow.laid).forCall (fun _ _ => 0) ⟨#[], #[.slice none 0 0], []⟩).memory Tryd.f3.params.toList Rows.markOnlySpec.vars false #[Value.slice none 0 0].toList 8 = some ([.nil], [], places) :=
  ⟨[], by kernel_rfl⟩
set_option maxRecDepth 100000 in
theorem MarkOnly_lifted (os : Os) (started : os.Started) (H : Type) (enc : TypeId × Value → H) (F : Stop.Interp) :
    ReturnsInHanded {} Tryd.checked os 3 .any ((Rows.OpenSpec.upto Rows.markOnlySpec).preRow enc Tryd.prog Tryd.f3 Rows.markOnlyUptoRow.domain false Rows.markOnlyUptoRow.laid) (((Rows.OpenSpec.upto Rows.markOnlySpec).at F).post enc Tryd.prog Tryd.f3 false true false false) := by
  obtain ⟨places, hx⟩ := MarkOnly_reads os enc
  refine returnsInHanded_of_row (C := Tryd.checked) (s := Rows.OpenSpec.upto Rows.markOnlySpec) own started (by kernel_rfl) Tryd.func3
    (witness_row_atRef (enc := enc) (C := Tryd.checked) false (World.laidAll Tryd.prog os Rows.markOnlyRow.laid) #[.slice none 0 0] rfl (by kernel_rfl) (by kernel_rfl) (by kernel_rfl)
      (OpenSpec.preRow_of_cond 8 hx (by kernel_rfl) (fun k hk => by cases hk; kernel_rfl) (by kernel_rfl) (MarkOnly_laid os))) ?_
  intro W base args ds gs before hval hW _ hcond _ hL _ _
  exact MarkOnly_contract H enc W base args ds gs before hval hW (hcond _ rfl) hL
theorem MarkOnly_said : Rows.MarkOnlyUptoSaid :=
  OpenClaim.holds_of_cond 3 Tryd.f3 rfl rfl rfl rfl rfl rfl rfl ⟨rfl, rfl, rfl, rfl, rfl⟩ rfl rfl rfl rfl rfl (by kernel_rfl) Tryd.func3 (by kernel_rfl)
    (of_decide_eq_true (by kernel_rfl)) (by unfold Func.isWrapper; first | (rw [if_pos (by decide +kernel)]; kernel_rfl) | (rw [if_neg (by decide +kernel)]; exact ⟨rfl, rfl⟩))
    (fun os started H enc _ F => by rw [OpenClaim.pre_eq_preRow]; exact MarkOnly_lifted os started H enc F)
theorem MarkOnly_plain (f : FuncId) (fn : Func) (hf : Tryd.pinned.checked.prog.funcNamed "tartan/tartanlaw24.MarkOnly" = some f) (hfn : Tryd.pinned.checked.prog.funcs[f]? = some fn) :
    true = Tryd.pinned.checked.prog.looks [] ∧ ∀ (j : Nat) t, fn.params[j]? = some t → Tryd.pinned.checked.prog.wantsStandIn t = false := by
  obtain rfl : f = 3 := Option.some.inj ((show Tryd.prog.funcNamed "tartan/tartanlaw24.MarkOnly" = some 3 by kernel_rfl).symm.trans hf) |>.symm
  obtain rfl : fn = Tryd.f3 := (Option.some.inj (Tryd.func3.symm.trans hfn)).symm
  refine ⟨by kernel_rfl, fun j t ht => ?_⟩
  rw [Tryd.params3] at ht
  obtain rfl : t = 22 := by simpa using Array.mem_of_getElem? ht
  exact (show Tryd.prog.wantsStandIn 22 = false by kernel_rfl)
theorem MarkOnly_holds : Rows.MarkOnlyUptoCardSaid :=
  Claim7.holds_tied_plain_at .later [] _ _ _ _ MarkOnly_said (fun _ h => by cases h) (by kernel_rfl) (fun _ h => by cases h) markOnlyUpto_row_tie rfl ⟨rfl, rfl⟩ (by kernel_rfl) rfl MarkOnly_plain (by kernel_rfl)
#print axioms MarkOnly_holds
end Go.Proofs.YthgjjfgedcaogaaDoor
