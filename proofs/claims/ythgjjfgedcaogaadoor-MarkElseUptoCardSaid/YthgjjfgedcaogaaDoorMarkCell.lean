/- mark.Text. -/
import Derived.Test.YthgjjfgedcaogaaDoorCell
import Derived.Test.YthgjjfgedcaogaaDoorKinds
namespace Go.Proofs.YthgjjfgedcaogaaDoor
open Go.RowKit Go.Proofs.YthgjjfgedcaogaaDoorW.PrintWords Go.Proofs.YthgjjfgedcaogaaDoorW.PrintLast Go.Proofs.YthgjjfgedcaogaaDoorW.PrintMore
attribute [local go_sem] Oper.semAt_some

def textOf (c : Conf) : Str := ⟨#[40, 40, 40, 32]⟩ ++ c.base ++ ⟨#[32, 41, 41, 41, 32]⟩ ++ c.ours ++ ⟨#[32, 47, 47, 47, 32]⟩ ++ c.them
theorem Text_calls (w : World) (c : Conf) (hb : c.base.size ≤ 1048576) (ho : c.ours.size ≤ 1048576) (ht : c.them.size ≤ 1048576) :
    Calls Tryd.prog 16 #[.agg #[.int .i64 c.kind, .int .i64 c.row, .string c.col, .string c.base, .string c.ours, .string c.them]] w fun e w' => e = .returned (.string (textOf c)) ∧ Below w.heap.size w w' := by
  go_enter Tryd.func16, Tryd.ntmps16
  go_wp2
  go_ret
  exact ⟨rfl, below1 _ _⟩

end Go.Proofs.YthgjjfgedcaogaaDoor
