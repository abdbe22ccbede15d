/- strconv.ParseUint at base 10 and 32 bits, as mark.Read calls it: a number, or an error. -/
import Derived.Test.YthgjjfgedcaogaaDoorMarkReport
import Derived.Test.YthgjjfgedcaogaaDoorEqualRows
import Derived.Lib.ParseIntBCases
namespace Go.Proofs.YthgjjfgedcaogaaDoor
open Go.RowKit Go.Shelf Go.Proofs.YthgjjfgedcaogaaDoorW.PrintWords Go.Proofs.YthgjjfgedcaogaaDoorW.PrintLast Go.Proofs.YthgjjfgedcaogaaDoorW.PrintMore
attribute [local go_sem] Oper.semAt_some

/-- What lies in the variables that are read; it lasts. -/
structure Env (w : World) : Prop where
  pow : Pow w
  syn : ∃ tp p, w.var? Tryd.prog "strconv.ErrSyntax" = some #[.iface tp p]
  ran : ∃ tp p, w.var? Tryd.prog "strconv.ErrRange" = some #[.iface tp p]
theorem Env.below {w w' : World} (h : Env w) (hb : Below w.heap.size w w') : Env w' :=
  ⟨h.pow.below hb, by obtain ⟨tp, p, e⟩ := h.syn; exact ⟨tp, p, var_below e hb⟩, by obtain ⟨tp, p, e⟩ := h.ran; exact ⟨tp, p, var_below e hb⟩⟩
def readNum (s : Str) : Int := match Lib.parseUintB 32 s.data.toList with | .ok u => (u : Int) | _ => -1
theorem Parse_calls (s : Str) (hs : s.size ≤ 281474976710656) (w : World) (he : Env w) : Calls Tryd.prog 17 #[.string s, .int .i64 10, .int .i64 32] w fun e w' =>
    ((∃ u : Nat, readNum s = (u : Int) ∧ u ≤ 4294967295 ∧ e = .returned (.tuple #[.int .u64 u, .nilIface])) ∨ (readNum s = -1 ∧ ∃ u t p, e = .returned (.tuple #[.int .u64 u, .iface t p]))) ∧ Below w.heap.size w w' := by
  by_cases ho : ∃ u, Lib.parseUintB 32 s.data.toList = .ok u
  · obtain ⟨u, h⟩ := ho
    refine (Tryd.strconv_ParseUint_10_at32_ok s (by omega) u h w).mono ?_
    rintro e w' ⟨rfl, hw⟩
    refine ⟨.inl ⟨u, by simp [readNum, h], Lib.parseUintB_le h, rfl⟩, ?_⟩
    rcases hw with rfl | rfl
    · exact Below.refl _ _
    · exact Lib.bytesWorld_below w _ s
  · have hn : readNum s = -1 := by
      unfold readNum
      split
      · rename_i u h
        exact absurd ⟨u, h⟩ ho
      · rfl
    by_cases h : Lib.parseUintB 32 s.data.toList = .range
    · obtain ⟨tp, p, ev⟩ := he.ran
      refine (Tryd.strconv_ParseUint_10_at32_range_var s hs h tp p w ev).mono ?_
      rintro e w' ⟨N, rfl, _, _, hb⟩
      exact ⟨.inr ⟨hn, _, _, _, rfl⟩, hb⟩
    · obtain ⟨tp, p, ev⟩ := he.syn
      refine (Tryd.strconv_ParseUint_10_at32_bad_var s hs (fun u hu => ho ⟨u, hu⟩) h tp p w ev).mono ?_
      rintro e w' ⟨N, rfl, _, _, hb⟩
      exact ⟨.inr ⟨hn, _, _, _, rfl⟩, hb⟩
end Go.Proofs.YthgjjfgedcaogaaDoor
