/- THE STATEMENT tartanlaw24.MarkElse: for all tables, conflicts, rows and columns whose values and letters number at most 1048576 together, the law returns true and leaves its arguments as they were; the listed variables hold what the program's text lays. -/
import Derived.Test.YthgjjfgedcaogaaDoorMarkRow
import Derived.Test.YthgjjfgedcaogaaDoorMarkElse
import Derived.Test.YthgjjfgedcaogaaDoorCards
import Derived.Test.YthgjjfgedcaogaaDoorTie
namespace Go.Proofs.YthgjjfgedcaogaaDoor
open Go.ChangeShapes Go.WideShapes Go.ChangeAt Go.RowKit Go.Proofs.YthgjjfgedcaogaaDoorW.PrintWords Go.Proofs.YthgjjfgedcaogaaDoorW.PrintLast Go.Proofs.YthgjjfgedcaogaaDoorW.PrintMore

abbrev wConf (c : Conf) : Nat := 1 + (1 + (wStr c.col + (wStr c.base + (wStr c.ours + wStr c.them)))) + 1
theorem oConf : Opn kConf 40 wConf (fun _ => True) := by
  intro H enc w spare held fuel cs x hx
  obtain ⟨a, h1, h2, _⟩ := ((OpnF.cons (off := 0) (f := ⟨"Kind", 3, 0, false, "", "", 0⟩) (fs := [⟨"Row", 3, 1, false, "", "", 8⟩, ⟨"Col", 9, 2, false, "", "", 16⟩, ⟨"Base", 9, 3, false, "", "", 32⟩, ⟨"Ours", 9, 4, false, "", "", 48⟩, ⟨"Them", 9, 5, false, "", "", 64⟩]) oInt rfl (by kernel_rfl) (OpnF.cons oInt rfl (by kernel_rfl) (OpnF.cons oStr rfl (by kernel_rfl) (OpnF.cons oStr rfl (by kernel_rfl) (OpnF.cons oStr rfl (by kernel_rfl) (OpnF.one oStr rfl (by kernel_rfl))))))).struct Tryd.underlying40 (by kernel_rfl)).iso (fun x : Conf => (x.kind, x.row, x.col, x.base, x.ours, x.them)) (fun x => ⟨x.1, x.2.1, x.2.2.1, x.2.2.2.1, x.2.2.2.2.1, x.2.2.2.2.2⟩) (fun _ => rfl) H enc w spare held fuel cs x hx
  exact ⟨a, h1, h2, trivial⟩
abbrev wConfs (l : List Conf) : Nat := (l.map wConf).sum + 1
theorem oConfs : Opn (Kd.slice 40 kConf) 25 wConfs (fun _ => True) := by
  intro H enc w spare held fuel cs x hx
  obtain ⟨a, h1, h2, _⟩ := Opn.slice oConf 40 Tryd.underlying25 (by kernel_rfl) H enc w spare held fuel cs x hx
  exact ⟨a, h1, h2, trivial⟩
theorem BConf_of {l : List Conf} (h : wConfs l ≤ 1048576) : l.length ≤ 1048576 ∧ ∀ c ∈ l, c.col.size ≤ 1048576 ∧ c.base.size ≤ 1048576 ∧ c.ours.size ≤ 1048576 ∧ c.them.size ≤ 1048576 := by
  unfold wConfs at h
  refine ⟨by have := length_le_sum wConf (by intro x; unfold wConf; omega) l; omega, fun c hc => ?_⟩
  have h1 : wConf c ≤ 1048576 := by have := le_sum wConf hc; omega
  unfold wConf wStr at h1
  exact ⟨by omega, by omega, by omega, by omega⟩

theorem MarkElse_contract (H : Type) (enc : TypeId × Value → H) (W : World) (base : Nat) (args : Array Value) (ds gs : List (DataW H)) (before : List MemPlace)
    (hval : ∀ (j : Nat) t v, Tryd.f4.params[j]? = some t → args[j]? = some v → Value.okWide Tryd.prog W .any base t v)
    (hW : DataW.Whole enc Tryd.prog Tryd.f4.params.toList Rows.markElseSpec.vars false W args.toList ds gs before) (hk : Rows.uptoSmall H (ds ++ gs) = true) (hL : laidMetH Tryd.prog Rows.markElseRow.laid W) :
    Calls Tryd.prog 4 args W fun e W' => ∃ v, e = .returned v ∧ Rows.markElseSpec.post enc Tryd.prog Tryd.f4 false true false false W args v W' := by
  have hW' := hW
  obtain ⟨p, q, hA0, hV, rfl, hfz, hnd⟩ := hW
  have hA : DataW.TrodAll enc Tryd.prog W 0 (fun _ => true) true Tryd.f4.params.toList args.toList ds p := hA0
  rw [Tryd.params4] at hA hval
  obtain ⟨v0, vs0, d0, ds0, p0, q0, hargs, rfl, rfl, h0, r0⟩ := trodAll_cons hA
  obtain ⟨v1, vs1, d1, ds1, p1, q1, rfl, rfl, rfl, h1, r1⟩ := trodAll_cons r0
  obtain ⟨v2, vs2, d2, ds2, p2, q2, rfl, rfl, rfl, h2, r2⟩ := trodAll_cons r1
  obtain ⟨v3, vs3, d3, ds3, p3, q3, rfl, rfl, rfl, h3, r3⟩ := trodAll_cons r2
  obtain ⟨rfl, rfl, rfl⟩ := trodAll_nil r3
  obtain rfl : args = #[v0, v1, v2, v3] := by cases args; simp_all
  obtain ⟨rfl, rfl⟩ := trodVars_none hV
  obtain ⟨cs0, rfl, -⟩ := okWide_struct Tryd.underlying34 (hval 0 34 v0 rfl rfl)
  obtain ⟨a, len, cap, rfl⟩ := okWide_slice Tryd.underlying25 (hval 1 25 v1 rfl rfl)
  obtain ⟨n2, rfl, -, -, -⟩ := open_int Tryd.underlying3 (hval 2 3 v2 rfl rfl) h2
  obtain ⟨n3, rfl, -, -, -⟩ := open_int Tryd.underlying3 (hval 3 3 v3 rfl rfl) h3
  obtain ⟨fuel, hf⟩ := h0
  obtain ⟨t, hK, hμ, -⟩ := oTab H enc W _ _ fuel _ _ hf
  obtain ⟨fuel1, hf1⟩ := h1
  obtain ⟨l, ⟨A, c, hv, hc, hC⟩, hμ1, -⟩ := oConfs H enc W _ _ fuel1 _ _ hf1
  simp only [Value.cells, List.cons.injEq, and_true, Value.slice.injEq] at hv
  obtain ⟨rfl, rfl, rfl⟩ := hv
  have hb := bulk_le hk
  dsimp only at hμ hμ1
  simp only [List.append_nil, Rows.uptoBulkAll] at hb
  obtain ⟨b1, b2⟩ := BTab_of (t := t) (by omega)
  refine (MarkElse_calls W _ _ t l n2 n3 (RdT_of hK) ⟨_, _, rfl, hc, hC⟩ (env_of hL) b1 b2 (BConf_of (by omega))).mono fun e W' ⟨he, bel⟩ => ?_
  subst he
  exact ⟨_, rfl, post_true rfl rfl Tryd.underlying4 rfl (by kernel_rfl) hW' bel⟩
set_option maxRecDepth 100000 in
theorem MarkElse_laid (os : Os) : laidMet Tryd.prog Rows.markElseRow.laid ((World.laidAll Tryd.prog os Rows.markElseRow.laid).forCall (fun _ _ => 0) ⟨#[], #[.agg #[.slice none 0 0, .slice none 0 0], .slice none 0 0, .int .i64 0, .int .i64 0], []⟩).memory :=
  laidMet_laidAll _ (by kernel_rfl) (by kernel_rfl)
set_option maxRecDepth 100000 in
theorem MarkElse_reads (os : Os) {H : Type} (enc : TypeId × Value → H) : ∃ places, DataW.whole enc Tryd.prog ((World.laidAll Tryd.prog os Rows.markElseRow.laid).forCall (fun _ _ => 0) ⟨#[], #[.agg #[.slice none 0 0, .slice none 0 0], .slice none 0 0, .int .i64 0, .int .i64 0], []⟩).memory Tryd.f4.params.toList Rows.markElseSpec.vars false #[Value.agg #[.slice none 0 0, .slice none 0 0], .slice none 0 0, .int .i64 0, .int .i64 0].toList 8 = some ([.agg [.nil, .nil], .nil, .lit (.int .i64 0), .lit (.int .i64 0)], [], places) :=
  ⟨[], by kernel_rfl⟩
set_option maxRecDepth 100000 in
theorem MarkElse_lifted (os : Os) (started : os.Started) (H : Type) (enc : TypeId × Value → H) (F : Stop.Interp) :
    ReturnsInHanded {} Tryd.checked os 4 .any ((Rows.OpenSpec.upto Rows.markElseSpec).preRow enc Tryd.prog Tryd.f4 Rows.markElseUptoRow.domain false Rows.markElseUptoRow.laid) (((Rows.OpenSpec.upto Rows.markElseSpec).at F).post enc Tryd.prog Tryd.f4 false true false false) := by
  obtain ⟨places, hx⟩ := MarkElse_reads os enc
  refine returnsInHanded_of_row (C := Tryd.checked) (s := Rows.OpenSpec.upto Rows.markElseSpec) own started (by kernel_rfl) Tryd.func4
    (witness_row_atRef (enc := enc) (C := Tryd.checked) false (World.laidAll Tryd.prog os Rows.markElseRow.laid) #[.agg #[.slice none 0 0, .slice none 0 0], .slice none 0 0, .int .i64 0, .int .i64 0] rfl (by kernel_rfl) (by kernel_rfl) (by kernel_rfl)
      (OpenSpec.preRow_of_cond 8 hx (by kernel_rfl) (fun k hk => by cases hk; kernel_rfl) (by kernel_rfl) (MarkElse_laid os))) ?_
  intro W base args ds gs before hval hW _ hcond _ hL _ _
  exact MarkElse_contract H enc W base args ds gs before hval hW (hcond _ rfl) hL
theorem MarkElse_said : Rows.MarkElseUptoSaid :=
  OpenClaim.holds_of_cond 4 Tryd.f4 rfl rfl rfl rfl rfl rfl rfl ⟨rfl, rfl, rfl, rfl, rfl⟩ rfl rfl rfl rfl rfl (by kernel_rfl) Tryd.func4 (by kernel_rfl)
    (of_decide_eq_true (by kernel_rfl)) (by unfold Func.isWrapper; first | (rw [if_pos (by decide +kernel)]; kernel_rfl) | (rw [if_neg (by decide +kernel)]; exact ⟨rfl, rfl⟩))
    (fun os started H enc _ F => by rw [OpenClaim.pre_eq_preRow]; exact MarkElse_lifted os started H enc F)
theorem MarkElse_plain (f : FuncId) (fn : Func) (hf : Tryd.pinned.checked.prog.funcNamed "tartan/tartanlaw24.MarkElse" = some f) (hfn : Tryd.pinned.checked.prog.funcs[f]? = some fn) :
    true = Tryd.pinned.checked.prog.looks [] ∧ ∀ (j : Nat) t, fn.params[j]? = some t → Tryd.pinned.checked.prog.wantsStandIn t = false := by
  obtain rfl : f = 4 := Option.some.inj ((show Tryd.prog.funcNamed "tartan/tartanlaw24.MarkElse" = some 4 by kernel_rfl).symm.trans hf) |>.symm
  obtain rfl : fn = Tryd.f4 := (Option.some.inj (Tryd.func4.symm.trans hfn)).symm
  refine ⟨by kernel_rfl, fun j t ht => ?_⟩
  rw [Tryd.params4] at ht
  have : t = 34 ∨ t = 25 ∨ t = 3 := by have := Array.mem_of_getElem? ht; simp at this; omega
  rcases this with rfl | rfl | rfl
  · exact (show Tryd.prog.wantsStandIn 34 = false by kernel_rfl)
  · exact (show Tryd.prog.wantsStandIn 25 = false by kernel_rfl)
  · exact (show Tryd.prog.wantsStandIn 3 = false by kernel_rfl)
theorem MarkElse_holds : Rows.MarkElseUptoCardSaid :=
  Claim7.holds_tied_plain_at .later [] _ _ _ _ MarkElse_said (fun _ h => by cases h) (by kernel_rfl) (fun _ h => by cases h) markElseUpto_row_tie rfl ⟨rfl, rfl⟩ (by kernel_rfl) rfl MarkElse_plain (by kernel_rfl)
#print axioms MarkElse_holds
end Go.Proofs.YthgjjfgedcaogaaDoor
