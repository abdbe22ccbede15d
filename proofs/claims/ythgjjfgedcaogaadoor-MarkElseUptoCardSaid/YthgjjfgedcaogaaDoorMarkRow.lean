/- The rows of tartanlaw24: what the lists of variables give. -/
import Derived.Test.YthgjjfgedcaogaaDoorRowLaw
import Derived.Test.YthgjjfgedcaogaaDoorMarkParse
import Derived.Lib.LaidTab
import Derived.LaidSub
namespace Go.Proofs.YthgjjfgedcaogaaDoor
open Go.ChangeShapes Go.WideShapes Go.ChangeAt Go.RowKit Go.Proofs.YthgjjfgedcaogaaDoorW.PrintWords Go.Proofs.YthgjjfgedcaogaaDoorW.PrintLast Go.Proofs.YthgjjfgedcaogaaDoorW.PrintMore

def VarRd (P : Program) (w : World) (n : String) (d : DataW Unit) : Prop :=
  ∃ g t cs fuel p, P.globalNamed n = some g ∧ (P.globals[g]?).map (·.type) = some t ∧ w.var? P n = some cs ∧ DataW.trod (fun _ => ()) P w 0 (fun _ => true) false fuel t cs.toList = some (d, p)
theorem varRd_of {P : Program} {w : World} : ∀ {l : List (String × DataW Unit)} {ps : List MemPlace}, DataW.LaidVars P w l ps → ∀ n d, (n, d) ∈ l → VarRd P w n d
  | [], _, _, _, _, hm => by cases hm
  | (n', d') :: r, ps, h, n, d, hm => by
    obtain ⟨g, t, cs, fuel, p, q, h1, h2, h3, h4, h5, _⟩ := h
    rcases List.mem_cons.1 hm with e | e
    · cases e
      exact ⟨g, t, cs, fuel, p, h1, h2, h3, h4⟩
    · exact varRd_of h5 n d e
theorem iface_of {P : Program} {w : World} {t : TypeId} {ms : Array (String × TypeId)} (ht : P.underlying t = some (.interface ms)) {fuel : Nat} {cs : List Value} {name : String} {d : DataW Unit} {p : List MemPlace}
    (h : DataW.trod (fun _ => ()) P w 0 (fun _ => true) false fuel t cs = some (.iface name d, p)) : ∃ u v, cs = [.iface u v] := by
  cases fuel with
  | zero => simp [DataW.trod] at h
  | succ n =>
    unfold DataW.trod at h
    rw [ht] at h
    split at h <;> simp_all
theorem sent_of {w : World} {n : String} {g : Nat} {t : TypeId} {ms : Array (String × TypeId)} (hg : Tryd.prog.globalNamed n = some g) (hty : (Tryd.prog.globals[g]?).map (·.type) = some t) (ht : Tryd.prog.underlying t = some (.interface ms)) {name : String} {d : DataW Unit}
    (h : VarRd Tryd.prog w n (.iface name d)) : ∃ tp p, w.var? Tryd.prog n = some #[.iface tp p] := by
  obtain ⟨g', t', cs, fuel, p, hg', ht', hvar, hd⟩ := h
  obtain rfl := Option.some.inj (hg.symm.trans hg')
  obtain rfl := Option.some.inj (hty.symm.trans ht')
  obtain ⟨u, v, e⟩ := iface_of ht hd
  refine ⟨u, v, ?_⟩
  rw [hvar]
  cases cs
  simpa using e
theorem env_of {W : World} (hL : laidMetH Tryd.prog Rows.markOnlyRow.laid W) : Env W := by
  obtain ⟨ps, hv, _⟩ : laidMet Tryd.prog Rows.markOnlyRow.laid W := hL
  refine ⟨?_, ?_, ?_⟩
  · obtain ⟨g', t', cs, fuel, p, hg', ht', hvar, hd⟩ := varRd_of hv "internal/strconv.uint64pow10" Rows.laid_internal_strconv_uint64pow10 (by simp [Rows.markOnlyRow])
    obtain rfl := Option.some.inj ((show Tryd.prog.globalNamed "internal/strconv.uint64pow10" = some 2 by kernel_rfl).symm.trans hg')
    obtain rfl := Option.some.inj ((show (Tryd.prog.globals[2]?).map (·.type) = some 88 by kernel_rfl).symm.trans ht')
    unfold Pow Lib.TabIs
    rw [hvar, ← Lib.cells_of_tab (zs := Lib.pow10Tab) (k := .u64) Tryd.underlying88 Tryd.underlying45 (by kernel_rfl) (by kernel_rfl) hd]
  · exact sent_of (g := 0) (t := 47) (by kernel_rfl) (by kernel_rfl) Tryd.underlying47 (varRd_of hv "strconv.ErrSyntax" Rows.laid_strconv_ErrSyntax (by simp [Rows.markOnlyRow]))
  · exact sent_of (g := 1) (t := 47) (by kernel_rfl) (by kernel_rfl) Tryd.underlying47 (varRd_of hv "strconv.ErrRange" Rows.laid_strconv_ErrRange (by simp [Rows.markOnlyRow]))
end Go.Proofs.YthgjjfgedcaogaaDoor
