/- mark.Report: conflicts as records, or none and an error. -/
import Derived.Test.YthgjjfgedcaogaaDoorMarkRecords
namespace Go.Proofs.YthgjjfgedcaogaaDoor
open Go.RowKit Go.Shelf Go.Proofs.YthgjjfgedcaogaaDoorW.PrintWords Go.Proofs.YthgjjfgedcaogaaDoorW.PrintLast Go.Proofs.YthgjjfgedcaogaaDoorW.PrintMore
attribute [local go_sem] Oper.semAt_some

def hdrRec : List Str := [⟨#[107, 105, 110, 100]⟩, ⟨#[114, 111, 119]⟩, ⟨#[99, 111, 108, 117, 109, 110]⟩, ⟨#[98, 97, 115, 101]⟩, ⟨#[111, 117, 114, 115]⟩, ⟨#[116, 104, 101, 105, 114, 115]⟩]
theorem uptoOk_length (l : List Conf) : (uptoOk l).length ≤ l.length := by
  induction l with
  | nil => simp [uptoOk]
  | cons c r ih =>
    simp only [uptoOk]
    split <;> simp <;> omega
def repOk (l : List Conf) : Bool := l.all okConf
def repRecs (l : List Conf) : List (List Str) := hdrRec :: l.map recOf

theorem uptoOk_sub {l : List Conf} {c : Conf} (h : c ∈ uptoOk l) : c ∈ l := by
  induction l with
  | nil => simp [uptoOk] at h
  | cons x r ih =>
    simp only [uptoOk] at h
    split at h
    · rcases List.mem_cons.1 h with h | h
      · exact h ▸ List.mem_cons_self
      · exact List.mem_cons_of_mem _ (ih h)
    · exact List.mem_singleton.1 h ▸ List.mem_cons_self
theorem uptoOk_full {l : List Conf} (h : ∀ c ∈ uptoOk l, okConf c = true) : repOk l = true ∧ uptoOk l = l := by
  have key : ∀ c ∈ l, okConf c = true := by
    induction l with
    | nil => simp
    | cons x r ih =>
      simp only [uptoOk] at h
      split at h
      · rename_i hx
        intro c hc
        rcases List.mem_cons.1 hc with hc | hc
        · exact hc ▸ hx
        · exact ih (fun y hy => h y (List.mem_cons_of_mem _ hy)) c hc
      · rename_i hx
        exact absurd (h x (by simp)) hx
  exact ⟨by simpa [repOk] using key, uptoOk_all key⟩
theorem records_calls (w : World) (A : Option Addr) (n c : Nat) : Calls Tryd.prog 21 #[.slice A n c] w fun e w' => e = .returned (.func (.func 28) #[] #[.pointer (some ⟨w.heap.size, 0, none⟩)]) ∧ w.alloc (.cells #[.slice A n c] 25) = w' := by
  have hmf : ∀ (fn : Fn) (first cap : Array Value) (w : World), (Instr.makeFunc fn first cap).run Tryd.prog w = .ok (.func fn first cap) w := fun _ _ _ _ => rfl
  go_enter Tryd.func21, Tryd.ntmps21
  go_wp2
  go_ret
  exact ⟨rfl, rfl⟩

set_option maxRecDepth 4000 in
set_option maxHeartbeats 1000000 in
theorem Report_calls (w : World) (v : Value) (l : List Conf) (hv : Rd kConf w v l) (hp : Pow w) (hrow : ∀ c ∈ l, -9223372036854775808 ≤ c.row ∧ c.row ≤ 9223372036854775807) (hl : l.length ≤ 1000000000) :
    Calls Tryd.prog 8 #[v] w fun e w' => ((repOk l = true ∧ ∃ v', e = .returned (.tuple #[v', .int .i64 0]) ∧ kRow.R 32 w' w.heap.size (fun _ => True) v' (repRecs l)) ∨ (repOk l = false ∧ e = .returned (.tuple #[.slice none 0 0, .int .i64 13]))) ∧ Below w.heap.size w w' := by
  obtain ⟨A, c, rfl, hc, hr⟩ := hv
  have HR := Aside0.mk hr
  have HP := Aside0.mk hp
  clear hr hp
  refine calls_of_wp_marks Tryd.func8 rfl ?_
  simp only [Tryd.ntmps8, List.size_toArray, List.length_cons, List.length_nil, Nat.reduceAdd, Nat.reduceSub, Array.replicate_succ, Array.replicate_zero, List.push_toArray, List.append_toArray, List.nil_append, List.cons_append]
  go_wp2_with fail
  refine (records_calls _ _ _ _).mono ?_
  rintro e w' ⟨rfl, rfl⟩
  go_wp2_with fail
  have F0 : kStr.R 9 (((w.alloc (.cells #[.slice none 0 0] 22)).alloc (.cells #[.int .i64 0] 26)).alloc (.cells (encs Value.string hdrRec).toArray 9)) w.heap.size (fun _ => True) (.slice (some ⟨w.heap.size + 1 + 1, 0, none⟩) 6 6) hdrRec := by
    have h := R_lits (W := ((w.alloc (.cells #[.slice none 0 0] 22)).alloc (.cells #[.int .i64 0] 26))) (base := w.heap.size) (e := 9) kStr (xs := hdrRec) (inner := encs Value.string hdrRec) (by simp; omega) (Kd.reps_scalar _) (by decide)
    rw [show hdrRec.length = 6 from rfl] at h
    simpa using h
  have F1 : kRow.R 32 ((((w.alloc (.cells #[.slice none 0 0] 22)).alloc (.cells #[.int .i64 0] 26)).alloc (.cells (encs Value.string hdrRec).toArray 9)).alloc (.cells #[.slice (some ⟨w.heap.size + 1 + 1, 0, none⟩) 6 6] 32)) w.heap.size (fun _ => True) (.slice (some ⟨w.heap.size + 1 + 1 + 1, 0, none⟩) 1 1) [hdrRec] := by
    have h := R_lits kRow (base := w.heap.size) (e := 32) (xs := [hdrRec]) (inner := [.slice (some ⟨w.heap.size + 1 + 1, 0, none⟩) 6 6]) (by simp; omega) (reps_single ⟨_, rfl, F0⟩ rfl) (by decide)
    simpa using h
  have F2 := (Kd.R_alloc (Kd.R_alloc F1 (.cells #[.slice (some ⟨w.heap.size + 1 + 1 + 1, 0, none⟩) 1 1] 22)) (.cells #[.slice A l.length c] 25))
  obtain ⟨W0, hW0⟩ : ∃ W0, ((((((w.alloc (.cells #[.slice none 0 0] 22)).alloc (.cells #[.int .i64 0] 26)).alloc (.cells (encs Value.string hdrRec).toArray 9)).alloc (.cells #[.slice (some ⟨w.heap.size + 1 + 1, 0, none⟩) 6 6] 32)).alloc (.cells #[.slice (some ⟨w.heap.size + 1 + 1 + 1, 0, none⟩) 1 1] 22)).alloc (.cells #[.slice A l.length c] 25)) = W0 := ⟨_, rfl⟩
  have hB0 : Below w.heap.size w W0 := by
    rw [← hW0]
    repeat (first | exact Below.refl _ _ | refine Below.alloc ?_ (by simp; try omega) _)
  have hs0 : W0.heap.size = w.heap.size + 6 := by rw [← hW0]; simp
  have b0 : W0.heap[w.heap.size]? = some (.cells #[.slice none 0 0] 22 (0, 0)) := by
    rw [← hW0]
    iterate 5 refine blk_alloc ?_ _
    exact alloc_at _ _ rfl
  have b1 : W0.heap[w.heap.size + 1]? = some (.cells #[.int .i64 0] 26 (0, 0)) := by
    rw [← hW0]
    iterate 4 refine blk_alloc ?_ _
    exact alloc_at _ _ (by simp)
  have b4 : W0.heap[w.heap.size + 4]? = some (.cells #[.slice (some ⟨w.heap.size + 1 + 1 + 1, 0, none⟩) 1 1] 22 (0, 0)) := by
    rw [← hW0]
    refine blk_alloc ?_ _
    exact alloc_at _ _ (by simp)
  have b5 : W0.heap[w.heap.size + 5]? = some (.cells #[.slice A l.length c] 25 (0, 0)) := by
    rw [← hW0]
    exact alloc_at _ _ (by simp)
  rw [hW0] at F2
  have hcs : (encs Value.string hdrRec).toArray = #[Value.string ⟨#[107, 105, 110, 100]⟩, Value.string ⟨#[114, 111, 119]⟩, Value.string ⟨#[99, 111, 108, 117, 109, 110]⟩, Value.string ⟨#[98, 97, 115, 101]⟩, Value.string ⟨#[111, 117, 114, 115]⟩, Value.string ⟨#[116, 104, 101, 105, 114, 115]⟩] := rfl
  rw [hcs] at hW0
  rw [hW0]
  have HS0 := Aside0.mk hs0
  have hs6 : w.heap.size + 6 ≤ W0.heap.size := by omega
  clear hW0 hcs hs0
  refine wp_range (α := RecX) (gf := 28) (lb := #[.pointer (some ⟨w.heap.size + 1 + 1 + 1 + 1 + 1, 0, none⟩)]) (n₀ := w.heap.size) (w0 := W0) rfl (enters_of Tryd.func28 (by kernel_rfl) rfl)
    (records_seq w W0 hB0 _ A c l b5 HR.out HP.out hrow) hB0.size (Below.refl _ _) (fun _ => rfl) (fun pre x W l o o' h hl ho => R_putObj h hl ho)
    (fun pre W => Aside0 ((∃ vo, W.heap[w.heap.size + 4]? = some (.cells #[vo] 22 (0, 0)) ∧ kRow.R 32 W w.heap.size (fun _ => True) vo (hdrRec :: pre.map fun x => recOf x.1)) ∧ W.heap[w.heap.size]? = some (.cells #[.slice none 0 0] 22 (0, 0)) ∧ W.heap[w.heap.size + 1]? = some (.cells #[.int .i64 0] 26 (0, 0)) ∧ (∀ x ∈ pre, okConf x.1 = true) ∧ Below w.heap.size w W ∧ w.heap.size + 6 ≤ W.heap.size))
    (fun c pre W => Aside0 (c = .ret ∧ W.heap[w.heap.size]? = some (.cells #[.slice none 0 0] 22 (0, 0)) ∧ W.heap[w.heap.size + 1]? = some (.cells #[.int .i64 13] 26 (0, 0)) ∧ (∃ x ∈ pre, okConf x.1 = false) ∧ Below w.heap.size w W ∧ w.heap.size + 6 ≤ W.heap.size))
    ?hI ?hIx ?h0 (fun pre x a' _ => a' = { tmps := #[.slice A l.length c, undef, .pointer (some ⟨w.heap.size, 0, none⟩), .pointer (some ⟨w.heap.size + 1, 0, none⟩), .pointer (some ⟨w.heap.size + 1 + 1 + 1 + 1, 0, none⟩), x.2, .bool (okConf x.1), .slice (some ⟨w.heap.size + 1 + 1, 0, none⟩) 6 6, .slice (some ⟨w.heap.size + 1 + 1 + 1, 0, none⟩) 1 1, .slice A l.length c, .func (.func 28) #[] #[.pointer (some ⟨w.heap.size + 1 + 1 + 1 + 1 + 1, 0, none⟩)], x.2, .bool (okConf x.1), undef, undef, undef, undef, undef, undef, undef], defers := [] })
    (fun _ _ _ _ _ _ _ h _ _ => h) ?hassign ?hbody ?hdone ?hstop
  case hI =>
    rintro s W W' row ⟨⟨vo, h4, hR⟩, h0, h1, hok, hB, hs⟩ hg hr
    have hr' := fun r e => (hr r e).2
    exact ⟨⟨vo, blk_turn h4 hg hr', R_turn hR hg hr'⟩, blk_turn h0 hg hr', blk_turn h1 hg hr', hok, below_turn hB hg (by omega) (by omega) hr, Nat.le_trans hs hg.size⟩
  case hIx =>
    rintro cj s W W' row ⟨hc, h0, h1, hok, hB, hs⟩ hg hr
    have hr' := fun r e => (hr r e).2
    exact ⟨hc, blk_turn h0 hg hr', blk_turn h1 hg hr', hok, below_turn hB hg (by omega) (by omega) hr, Nat.le_trans hs hg.size⟩
  case h0 => exact ⟨⟨_, b4, F2⟩, b0, b1, by simp, hB0, by omega⟩
  case hassign =>
    intro lp pre x W hi hok K hK
    gi_wp2
    exact hK _ _ (KeepsFrom.refl _ _) (Below.refl _ _) hi hok rfl
  case hbody =>
    rintro lp pre ⟨cf, vx⟩ a' W ⟨⟨vo, h4, hR⟩, h0, h1, hok, hB, hs⟩ hsp hx rfl
    replace hx : kStr.R 9 W w.heap.size (fun _ => True) vx (recOf cf) := hx
    obtain ⟨Ax, cx, hvx⟩ := Kd.R_slice hx
    rw [show (recOf cf).length = 6 from rfl] at hvx
    subst hvx
    obtain ⟨Ao, co, hvo⟩ := Kd.R_slice hR
    rw [show (hdrRec :: pre.map fun x => recOf x.1).length = pre.length + 1 by simp] at hvo
    subst hvo
    dsimp only at hsp ⊢
    have HX := Aside0.mk hx
    have HRr := Aside0.mk hR
    have H4 := Aside0.mk h4
    have HH0 := Aside0.mk h0
    have HH1 := Aside0.mk h1
    have HOK := Aside0.mk hok
    have HBB := Aside0.mk hB
    have c4 := blk_cell h4 0
    have c0 := blk_cell h0 0
    have c1 := blk_cell h1 0
    have f0 := blk_frozen h0 0
    have f1 := blk_frozen h1 0
    simp only [List.getElem?_toArray, List.getElem?_cons_zero] at c4 c0 c1
    obtain ⟨b, hb⟩ : ∃ b, okConf cf = b := ⟨_, rfl⟩
    have HBo := Aside0.mk hb
    try rw [hb]
    clear hx hR h4 h0 h1 hok hB hb
    cases b with
    | false =>
      gi_wp2
      exact ⟨((KeepsOthers.setCell W _ _).from _).trans ((KeepsOthers.setCell _ _ _).from _), ⟨rfl, blk_far (p := ⟨w.heap.size + 1, 0, none⟩) (blk_set HH0.out 0 _) (by simp) _, blk_set (blk_far (p := ⟨w.heap.size, 0, none⟩) HH1.out (by simp) _) 0 _, ⟨_, List.mem_append_right _ (List.mem_singleton_self _), HBo.out⟩, (HBB.out.setCell (p := ⟨w.heap.size, 0, none⟩) (Nat.le_refl _) _).setCell (p := ⟨w.heap.size + 1, 0, none⟩) (Nat.le_succ _) _, by simpa [World.setCell] using hs⟩⟩
    | true =>
      have HRX := Aside0.mk (Kd.R_apartR HX.out HRr.out (by intro q hq; simp [kStr, Kd.string, Kd.scalar] at hq; omega))
      have HNE := Aside0.mk (Kd.R_ne HRr.out H4.out (by decide))
      have HLT := Aside0.mk hsp
      clear hsp
      gi_wp2_with (
        gi_at_builtin
        go_loud (refine R_append_in kRow (w0 := W) w.heap.size rfl (.tmp 15) (.tmp 17) 22 32 (.slice none 0 0) 24 rfl Tryd.underlying22 infoRow rfl (by decide) (by omega) (.slice Ao (pre.length + 1) co) (hdrRec :: pre.map fun x => recOf x.1) (recOf cf) [.slice Ax 6 cx] (fun _ => True) _ rfl rfl ⟨_, rfl, HRX.out⟩ (fun _ h => h) (fun _ _ => trivial) HRr.out (Below.refl _ W) (by omega) (by have h1 := HLT.out.length_le; have h2 := uptoOk_length l; simp at h1 ⊢; omega) ?_)
        intro v1 w1 hR1 hB1 hg1 hat1
        obtain ⟨A1, c1', hv1⟩ := Kd.R_slice hR1
        subst hv1
        have h4' := blk_grown H4.out hg1 HNE.out
        have h0' := blk_grown HH0.out hg1 (Kd.R_ne HRr.out HH0.out (by decide))
        have h1' := blk_grown HH1.out hg1 (Kd.R_ne HRr.out HH1.out (by decide))
        have d4 := blk_cell h4' 0
        have e4 := blk_frozen h4' 0
        simp only [List.getElem?_toArray, List.getElem?_cons_zero] at d4
        have HR1 := Aside0.mk hR1
        have HB1 := Aside0.mk hB1
        have HG1 := Aside0.mk hg1
        have H4' := Aside0.mk h4'
        have H0' := Aside0.mk h0'
        have H1' := Aside0.mk h1'
        clear hR1 hB1 hg1 hat1 h4' h0' h1' HLT)
      refine ⟨((R_keeps HRr.out HG1.out).trans (KeepsOthers.setCell _ _ _)).from _, HB1.out.setCell (p := ⟨w.heap.size + 4, 0, none⟩) (by simp) _, ⟨_, blk_set H4'.out 0 _, ?_⟩, blk_far (p := ⟨w.heap.size + 4, 0, none⟩) H0'.out (by simp) _, blk_far (p := ⟨w.heap.size + 4, 0, none⟩) H1'.out (by simp) _, ?_, (HBB.out.trans HB1.out).setCell (p := ⟨w.heap.size + 4, 0, none⟩) (by simp) _, ?_⟩
      · have h := Kd.R_set HR1.out H4'.out (by decide) 0 (.slice A1 (hdrRec :: List.map (fun x => recOf x.fst) pre ++ [recOf cf]).length c1')
        simpa using h
      · intro x hx
        rcases List.mem_append.1 hx with hx | hx
        · exact HOK.out x hx
        · rw [List.mem_singleton.1 hx]; exact HBo.out
      · have := HG1.out.size
        simp only [World.size_setCell]
        omega
  case hdone =>
    rintro xs W hS ⟨⟨vo, h4, hR⟩, h0, h1, hok, hB, hs⟩ hK
    obtain ⟨Ao, co, hvo⟩ := Kd.R_slice hR
    subst hvo
    have c4 := blk_cell h4 0
    have c1 := blk_cell h1 0
    have f0 := blk_frozen h0 0
    have f1 := blk_frozen h1 0
    have c0 := blk_cell h0 0
    simp only [List.getElem?_toArray, List.getElem?_cons_zero] at c4 c0 c1
    have HH0 := Aside0.mk h0
    have H4 := Aside0.mk h4
    have HH1 := Aside0.mk h1
    have HRa := Aside0.mk hR
    have HOK := Aside0.mk hok
    have HB := Aside0.mk hB
    have HS := Aside0.mk hS
    clear h0 h1 h4 hR hok hB hS
    go_wp2
    have g0 : (((W.setCell ⟨w.heap.size, 0, none⟩ (.slice Ao (xs.length + 1) co)).setCell ⟨w.heap.size + 1, 0, none⟩ (.int .i64 0)).putObj W0.heap.size (.deferred none)).heap[w.heap.size]? = some (.cells #[.slice Ao (xs.length + 1) co] 22 (0, 0)) :=
      (World.putObj_heap_other (by omega)).trans (blk_far (p := ⟨w.heap.size + 1, 0, none⟩) (blk_set HH0.out 0 _) (by simp) _)
    have g1 : (((W.setCell ⟨w.heap.size, 0, none⟩ (.slice Ao (xs.length + 1) co)).setCell ⟨w.heap.size + 1, 0, none⟩ (.int .i64 0)).putObj W0.heap.size (.deferred none)).heap[w.heap.size + 1]? = some (.cells #[.int .i64 0] 26 (0, 0)) :=
      (World.putObj_heap_other (by omega)).trans (blk_set (blk_far (p := ⟨w.heap.size, 0, none⟩) HH1.out (by simp) _) 0 _)
    have l0 := blk_cell g0 0
    have l1 := blk_cell g1 0
    simp only [List.getElem?_toArray, List.getElem?_cons_zero] at l0 l1
    have hkk : ((W.setCell ⟨w.heap.size, 0, none⟩ (.slice Ao (xs.length + 1) co)).setCell ⟨w.heap.size + 1, 0, none⟩ (.int .i64 0)).heap[W0.heap.size]? = some (.deferred (some [])) :=
      ((KeepsOthers.setCell W _ _).trans (KeepsOthers.setCell _ _ _)).same _ _ hK rfl
    refine marks_ret rfl hkk (v := .tuple #[.slice Ao (xs.length + 1) co, .int .i64 0]) ?_ ?_
    · simp [results, go_sem, l0, l1]
    · have hxs : ∀ x ∈ uptoOk l, okConf x = true := by
        intro x hx
        rw [← HS.out] at hx
        obtain ⟨y, hy, rfl⟩ := List.mem_map.1 hx
        exact HOK.out y hy
      obtain ⟨hrep, hall⟩ := uptoOk_full hxs
      refine ⟨.inl ⟨hrep, _, rfl, ?_⟩, ?_⟩
      · have h1 := Kd.R_set HRa.out HH0.out (by decide) 0 (.slice Ao (xs.length + 1) co)
        have h2 := Kd.R_set h1 (blk_far (p := ⟨w.heap.size, 0, none⟩) HH1.out (by simp) _) (by decide) 0 (.int .i64 0)
        have h3 := R_putObj h2 hkk rfl (o' := .deferred none)
        have e : (hdrRec :: List.map (fun x => recOf x.fst) xs) = repRecs l := by
          rw [repRecs, ← hall, ← HS.out, List.map_map]
          rfl
        rw [← e]
        rw [show (hdrRec :: List.map (fun x => recOf x.fst) xs).length = xs.length + 1 by simp] at h3
        exact h3
      · refine ((HB.out.setCell (p := ⟨w.heap.size, 0, none⟩) (Nat.le_refl _) _).setCell (p := ⟨w.heap.size + 1, 0, none⟩) (Nat.le_succ _) _).grown (grownBy_putObj' _ W0.heap.size _) (by simp only [World.size_setCell]; omega) (fun k e => by cases e; omega)
  case hstop =>
    rintro cj pre W hSp ⟨rfl, h0, h1, hx, hB, hs⟩ hK
    go_wp2
    have l0 := blk_cell (w := W.putObj W0.heap.size (.deferred none)) ((World.putObj_heap_other (by omega)).trans h0) 0
    have l1 := blk_cell (w := W.putObj W0.heap.size (.deferred none)) ((World.putObj_heap_other (by omega)).trans h1) 0
    simp only [List.getElem?_toArray, List.getElem?_cons_zero] at l0 l1
    refine marks_ret rfl hK (v := .tuple #[.slice none 0 0, .int .i64 13]) ?_ ?_
    · simp [results, go_sem, l0, l1]
    · refine ⟨.inr ⟨?_, rfl⟩, hB.grown (grownBy_putObj' _ W0.heap.size _) (by omega) (fun k e => by cases e; omega)⟩
      obtain ⟨x, hx, hxo⟩ := hx
      have : x.1 ∈ uptoOk l := hSp.subset (List.mem_map_of_mem (f := fun x : RecX => x.1) hx)
      have hm := uptoOk_sub this
      rw [repOk, List.all_eq_false]
      exact ⟨x.1, hm, by simp [hxo]⟩
end Go.Proofs.YthgjjfgedcaogaaDoor
