/- From a law's walk to its row: the arguments read behind the call as they did before. -/
import Derived.Test.YthgjjfgedcaogaaDoorOpen
import Derived.Test.YthgjjfgedcaogaaDoorRef03
import Derived.WalkKit
import Derived.ProofKit
import Derived.OpenShut
import Derived.ShutString
import Derived.ChangeOld
import Derived.Below
import Derived.Carry
import Derived.JoinedCond
import Derived.Deep.DeepHandedRow
import Derived.Deep.DeepWitnessRowRef
import Derived.Lay
namespace Go.Proofs.YthgjjfgedcaogaaDoor
open Go.ChangeShapes Go.WideShapes Go.ChangeAt Go.RowKit Go.Proofs.YthgjjfgedcaogaaDoorW.PrintWords Go.Proofs.YthgjjfgedcaogaaDoorW.PrintLast Go.Proofs.YthgjjfgedcaogaaDoorW.PrintMore

theorem own : ownKnob Tryd.prog.godebug = none := by kernel_rfl
theorem laidOut : laidOutB Tryd.prog = true := by kernel_rfl
theorem trodAll_below {H : Type} {enc : TypeId × Value → H} {W W' : World} (hb : Below W.heap.size W W') : ∀ (ts : List TypeId) (vs : List Value) (ds : List (DataW H)) (ps : List MemPlace), DataW.TrodAll enc Tryd.prog W 0 (fun _ => true) true ts vs ds ps →
    (∀ t ∈ ts, Tryd.prog.readableRec t = true ∧ t < Tryd.prog.types.size) → DataW.TrodAll enc Tryd.prog W' 0 (fun b => decide (b < W.heap.size)) true ts vs ds ps
  | [], [], [], _, h, _ => h
  | t :: ts, v :: vs, d :: ds, ps, h, hr => by
    obtain ⟨p, q, h1, h2, rfl⟩ := h
    obtain ⟨r1, r2⟩ := hr t List.mem_cons_self
    have lt : ∀ x ∈ p, x.block < W.heap.size := by obtain ⟨m, hm⟩ := h1; exact DataW.trod_lt m _ _ _ hm
    exact ⟨p, q, Below.trod laidOut r1 r2 h1 hb lt, trodAll_below hb ts vs ds q h2 (fun t ht => hr t (List.mem_cons_of_mem _ ht)), rfl⟩
  | [], [], _ :: _, _, h, _ => h.elim
  | [], _ :: _, _, _, h, _ => by cases h
  | _ :: _, [], _, _, h, _ => by cases h
  | _ :: _, _ :: _, [], _, h, _ => by cases h
theorem post_true {H : Type} {enc : TypeId × Value → H} {f : Func} {s : ChangeSpec} {tb : TypeId} {W W' : World} {args : Array Value} {ds gs : List (DataW H)} {before : List MemPlace}
    (hvars : s.vars = []) (hres : f.resultTypes = #[tb]) (hb : Tryd.prog.underlying tb = some .bool) (hspec : s.fn H ds = { results := [.lit (.bool true)], args := ds })
    (hread : f.params.all (fun t => Tryd.prog.readableRec t && decide (t < Tryd.prog.types.size)) = true)
    (hW : DataW.Whole enc Tryd.prog f.params.toList s.vars false W args.toList ds gs before) (hbel : Below W.heap.size W W') :
    s.post enc Tryd.prog f false true false false W args (.bool true) W' := by
  have hW' := hW
  obtain ⟨p, q, hA, hV, rfl, hfz, hnd⟩ := hW
  rw [hvars] at hV
  obtain ⟨rfl, rfl⟩ := trodVars_none hV
  have hds : s.fn H (ds ++ []) = { results := [.lit (.bool true)], args := ds } := by rw [List.append_nil]; exact hspec
  refine ⟨ds, [], p ++ [], [], p, [], hW', ?_, ?_, ?_, hbel.frame _, fun h => by cases h⟩
  · rw [hds, hres]
    exact trodAll_mk1 (shut_bool hb _)
  · rw [hds]
    refine trodAll_below hbel _ _ _ _ hA fun t ht => ?_
    have := Array.all_eq_true_iff_forall_mem.1 hread t (by simpa using ht)
    simpa using this
  · rw [hds, hvars]
    rfl

/-- How much a string, a row, rows weigh. -/
abbrev wStr (s : Str) : Nat := s.size + 1
abbrev wRow (r : List Str) : Nat := (r.map wStr).sum + 1
abbrev wRows (l : List (List Str)) : Nat := (l.map wRow).sum + 1
theorem BRow_of {r : List Str} (h : wRow r ≤ 1048576) : BRow r := by
  unfold wRow at h
  refine ⟨by have := length_le_sum wStr (by simp [wStr]) r; omega, fun s hs => ?_⟩
  have := le_sum wStr hs
  unfold BStr
  simp only [wStr] at this h
  omega
theorem BRows_of {l : List (List Str)} (h : wRows l ≤ 1048576) : BRows l := by
  unfold wRows at h
  refine ⟨by have := length_le_sum wRow (by simp [wRow]) l; omega, fun r hr => BRow_of ?_⟩
  have := le_sum wRow hr
  omega
theorem oStr : Opn kStr 9 wStr (fun _ => True) := Opn.string Tryd.underlying9
theorem oRow : Opn kRow 32 wRow (fun _ => ∀ _ : Str, True) := by
  intro H enc w spare held fuel cs x hx
  obtain ⟨a, h1, h2, _⟩ := Opn.slice oStr 9 Tryd.underlying32 (by kernel_rfl) H enc w spare held fuel cs x hx
  exact ⟨a, h1, h2, fun _ => trivial⟩
theorem oRows : Opn (Kd.slice 32 kRow) 22 wRows (fun _ => True) := by
  intro H enc w spare held fuel cs x hx
  obtain ⟨a, h1, h2, _⟩ := Opn.slice oRow 32 Tryd.underlying22 (by kernel_rfl) H enc w spare held fuel cs x hx
  exact ⟨a, h1, h2, trivial⟩
theorem oInt : Opn (Kd.int .i64) 3 (fun _ => 1) (fun n => (Lit.int .i64 n).wf = true) := Opn.int Tryd.underlying3
abbrev wTab (t : Tab) : Nat := wRow t.head + wRows t.rows + 1
theorem oTab : Opn kTab 34 wTab (fun _ => True) := by
  intro H enc w spare held fuel cs x hx
  obtain ⟨a, h1, h2, _⟩ := ((OpnF.cons (off := 0) (f := ⟨"Head", 32, 0, false, "", "", 0⟩) (fs := [⟨"Rows", 22, 1, false, "", "", 24⟩]) oRow rfl (by kernel_rfl) (OpnF.one oRows rfl (by kernel_rfl))).struct Tryd.underlying34 (by kernel_rfl)).iso (fun x : Tab => (x.head, x.rows)) (fun x => ⟨x.1, x.2⟩) (fun _ => rfl) H enc w spare held fuel cs x hx
  exact ⟨a, h1, h2, trivial⟩
theorem arr_of {a : Array Value} {l : List Value} (h : a.toList = l) : a = l.toArray := by
  cases a
  simp only at h
  rw [h]
theorem RdT_of {w : World} {a : Array Value} {t : Tab} (h : kTab.K w t (Value.agg a).cells.toList) : RdT w (.agg a) t := by
  obtain ⟨A0, c0, A1, c1, e, h1, h2, h3, h4⟩ := kTab_open h
  have e' : a.toList = [.slice A0 t.head.length c0, .slice A1 t.rows.length c1] := e
  rw [arr_of e']
  exact ⟨_, _, rfl, ⟨A0, c0, rfl, h1, h2⟩, ⟨A1, c1, rfl, h3, h4⟩⟩
theorem BTab_of {t : Tab} (h : wTab t ≤ 1048576) : BRow t.head ∧ BRows t.rows := by
  unfold wTab at h
  exact ⟨BRow_of (by omega), BRows_of (by omega)⟩
end Go.Proofs.YthgjjfgedcaogaaDoor
