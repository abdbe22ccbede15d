/- mark.records: an iterator that tells a record of each conflict, up to the first that is none. -/
import Derived.Test.YthgjjfgedcaogaaDoorMarkSmall
import Derived.Test.YthgjjfgedcaogaaDoorKinds
import Derived.Test.YthgjjfgedcaogaaDoorHeldIn
namespace Go.Proofs.YthgjjfgedcaogaaDoor
open Go.RowKit Go.Shelf Go.Proofs.YthgjjfgedcaogaaDoorW.PrintWords Go.Proofs.YthgjjfgedcaogaaDoorW.PrintLast Go.Proofs.YthgjjfgedcaogaaDoorW.PrintMore
attribute [local go_sem] Oper.semAt_some

def okConf (c : Conf) : Bool := decide (wordOf c.kind ≠ ⟨#[]⟩) && (decide (-1 ≤ c.row) && decide (c.row ≤ 999999))
def recOf (c : Conf) : List Str := [wordOf c.kind, numberOf c.row, c.col, c.base, c.ours, c.them]
def uptoOk : List Conf → List Conf
  | [] => []
  | c :: r => if okConf c then c :: uptoOk r else [c]
theorem uptoOk_take {l : List Conf} {k : Nat} (hk : k < l.length) (h : ∀ c ∈ l.take k, okConf c = true) : l.take (k + 1) <+: uptoOk l ∧ (okConf (nth zConf l k) = false → l.take (k + 1) = uptoOk l) := by
  induction l generalizing k with
  | nil => simp at hk
  | cons c r ih =>
    cases k with
    | zero =>
      simp only [Nat.zero_add, List.take_succ_cons, List.take_zero, uptoOk]
      split
      · rename_i hc
        exact ⟨⟨uptoOk r, rfl⟩, fun h' => by simp [nth, hc] at h'⟩
      · exact ⟨⟨[], rfl⟩, fun _ => rfl⟩
    | succ k =>
      have hc : okConf c = true := h c (by simp)
      obtain ⟨h1, h2⟩ := ih (k := k) (by simpa using hk) (fun x hx => h x (by simp [hx]))
      simp only [List.take_succ_cons, uptoOk, hc, if_true]
      exact ⟨by simpa using h1, fun h' => by rw [h2 (by simpa [nth] using h')]⟩
theorem uptoOk_all {l : List Conf} (h : ∀ c ∈ l, okConf c = true) : uptoOk l = l := by
  induction l with
  | nil => rfl
  | cons c r ih => simp [uptoOk, h c (by simp), ih (fun x hx => h x (by simp [hx]))]

abbrev RecX := Conf × Value
def recOk (base : Nat) (_ : List RecX) (x : RecX) (W : World) : Prop := kStr.R 9 W base (fun _ => True) x.2 (recOf x.1)

set_option maxHeartbeats 2000000 in
theorem records_seq (w0 w : World) (hb0 : Below w0.heap.size w0 w) (Bx : Nat) (A : Option Addr) (c : Nat) (l : List Conf) (hbox : w.heap[Bx]? = some (.cells #[.slice A l.length c] 25 (0, 0))) (hr : kConf.C w0 A l.length l) (hp : Pow w0)
    (hrow : ∀ c ∈ l, -9223372036854775808 ≤ c.row ∧ c.row ≤ 9223372036854775807) :
    SeqP Tryd.prog 28 #[.pointer (some ⟨Bx, 0, none⟩)] (fun x : RecX => #[x.2, .bool (okConf x.1)]) w0.heap.size (recOk w0.heap.size) (fun xs => xs.map (·.1) = uptoOk l) (fun pre => pre.map (·.1) <+: uptoOk l) w := by
  intro lp J Jx Jp W hW hJ hJx hJp hY h0
  refine callsIn_of_wp Tryd.func28 rfl trivial ?_ rfl
  simp only [Tryd.ntmps28, List.size_toArray, List.length_cons, List.length_nil, Nat.reduceAdd, Nat.reduceSub, Array.replicate_succ, Array.replicate_zero, List.push_toArray, List.append_toArray, List.nil_append, List.cons_append]
  have hlt : Bx < w.heap.size := blk_lt hbox
  have hc0 : W.cell? ⟨Bx, 0, none⟩ = some (.slice A l.length c) := by
    rw [hW.cell (p := ⟨Bx, 0, none⟩) hlt, blk_cell hbox]
    rfl
  have HR := Aside0.mk hr
  have HP := Aside0.mk hp
  have HY := Aside0.mk hY
  have HW := Aside0.mk (hb0.trans (hW.mono hb0.size))
  clear hb0
  have hm := Kd.C_max hr
  clear hbox hr hp hY hW
  gi_wp2
  gi_loopw [9] (fun v9 wr => ∃ (k : Nat) (pre : List RecX), v9 = .int .i64 k ∧ k ≤ l.length ∧ Aside0 (pre.map (·.1) = l.take k) ∧ Aside0 (∀ c ∈ l.take k, okConf c = true) ∧ Aside0 (J pre wr) ∧ Aside0 (Below w0.heap.size w0 wr)) (fun v9 _ => l.length - (intOf v9).toNat)
  case atStart => exact ⟨0, [], rfl, Nat.zero_le _, ⟨by simp⟩, ⟨by simp⟩, ⟨h0⟩, HW⟩
  case round =>
    obtain ⟨k, pre, rfl, hk, HT, HO, HJ, HB⟩ := hrel
    by_cases hlt : k < l.length
    · obtain ⟨ad, e, x0, x1, x2, x3, x4, x5⟩ := C_Conf (Kd.C_below HR.out HB.out) hlt
      cases e
      have q : (k : Int) < (l.length : Int) := by omega
      obtain ⟨r1, r2⟩ := hrow (nth zConf l k) (by rw [nth_get zConf hlt]; exact List.getElem_mem hlt)
      have HQ1 := Aside0.mk (word_calls (nth zConf l k).kind)
      have HX := Aside0.mk (heap_alloc_new wr (.cells #[.int .i64 (nth zConf l k).kind, .int .i64 (nth zConf l k).row, .string (nth zConf l k).col, .string (nth zConf l k).base, .string (nth zConf l k).ours, .string (nth zConf l k).them] 40))
      gi_wp2_with fail
      refine ⟨trivial, rfl, (callsIn_wide.2 (HQ1.out _)).mono ?_⟩
      rintro e w1 ⟨rfl, hb1⟩
      have HX1 := Aside0.mk (blk_below HX.out hb1)
      have y0 := blk_cell HX1.out 0
      have y1 := blk_cell HX1.out 1
      have y2 := blk_cell HX1.out 2
      have y3 := blk_cell HX1.out 3
      have y4 := blk_cell HX1.out 4
      have y5 := blk_cell HX1.out 5
      simp only [List.getElem?_toArray, List.getElem?_cons_zero, List.getElem?_cons_succ] at y0 y1 y2 y3 y4 y5
      have HB1 := Aside0.mk (below_trans (below1 _ _) hb1)
      have HW1 := Aside0.mk (below_trans HB.out HB1.out)
      clear hb1 x0 x1 x2 x3 x4 x5
      obtain ⟨b, hb⟩ : ∃ b, okConf (nth zConf l k) = b := ⟨_, rfl⟩
      have hsplit : (ByteArray.toList (wordOf (nth zConf l k).kind) = [] ∧ b = false) ∨ (ByteArray.toList (wordOf (nth zConf l k).kind) ≠ [] ∧ (((nth zConf l k).row < -1 ∧ b = false) ∨ (-1 ≤ (nth zConf l k).row ∧ ((999999 < (nth zConf l k).row ∧ b = false) ∨ ((nth zConf l k).row ≤ 999999 ∧ b = true))))) := by
        subst hb
        unfold okConf
        by_cases h1 : wordOf (nth zConf l k).kind = ⟨#[]⟩
        · exact .inl ⟨by rw [h1]; exact ByteArray.toList_mk [], by simp [h1]⟩
        · refine .inr ⟨fun e => h1 (str_ext (by rw [e]; exact (ByteArray.toList_mk []).symm)), ?_⟩
          by_cases h2 : (nth zConf l k).row < -1
          · exact .inl ⟨h2, by simp; omega⟩
          · refine .inr ⟨by omega, ?_⟩
            by_cases h3 : 999999 < (nth zConf l k).row
            · exact .inl ⟨h3, by simp; omega⟩
            · exact .inr ⟨by omega, by simp [h1]; omega⟩
      have HK := Aside0.mk hb
      clear hb
      rw [show (ByteArray.toList (wordOf (nth zConf l k).kind) ≠ []) = ((ByteArray.toList (wordOf (nth zConf l k).kind)).isEmpty = false) by simp] at hsplit
      rcases hsplit with ⟨hw, rfl⟩ | ⟨hw, ⟨h1, rfl⟩ | ⟨h1, ⟨h2, rfl⟩ | ⟨h2, rfl⟩⟩⟩
      all_goals try (have h3 : decide ((nth zConf l k).row ≤ 999999) = true := decide_eq_true h2)
      all_goals try (have h3 : decide ((nth zConf l k).row ≤ 999999) = false := decide_eq_false (by omega))
      all_goals
        gi_wp2_with fail
        refine region_heldIn (fun W => W.heap[wr.heap.size]? = some (.cells #[.int .i64 (nth zConf l k).kind, .int .i64 (nth zConf l k).row, .string (nth zConf l k).col, .string (nth zConf l k).base, .string (nth zConf l k).ours, .string (nth zConf l k).them] 40 (0, 0))) [15] (by kernel_rfl) ?_
        refine anyHI_take (i := 0) (.func (.yield lp) #[] #[]) rfl (by kernel_rfl) (by kernel_rfl) (by kernel_rfl) (by kernel_rfl) (by kernel_rfl) (fun _ _ _ h => h) HX1.out (Or.inl ⟨rfl, fun W hS => by go_simp⟩) ?_
        refine anyHI_take (i := 1) (.string (wordOf (nth zConf l k).kind)) rfl (by kernel_rfl) (by kernel_rfl) (by kernel_rfl) (by kernel_rfl) (by kernel_rfl) (fun _ _ _ h => h) HX1.out (Or.inl ⟨rfl, fun W hS => by go_simp⟩) ?_
        refine anyHI_take (i := 2) (.pointer (some ⟨wr.heap.size, 1, none⟩)) rfl (by kernel_rfl) (by kernel_rfl) (by kernel_rfl) (by kernel_rfl) (by kernel_rfl) (fun _ _ _ h => h) HX1.out (Or.inl ⟨rfl, fun W hS => by go_simp⟩) ?_
        refine anyHI_take (i := 3) (.int .i64 (nth zConf l k).row) rfl (by kernel_rfl) (by kernel_rfl) (by kernel_rfl) (by kernel_rfl) (by kernel_rfl) (fun _ _ _ h => h) HX1.out (Or.inl ⟨rfl, fun W hS => by have z := blk_cell hS 1; simp only [List.getElem?_toArray, List.getElem?_cons_zero, List.getElem?_cons_succ] at z; go_simp⟩) ?_
        refine anyHI_take (i := 5) (.pointer (some ⟨wr.heap.size, 2, none⟩)) rfl (by kernel_rfl) (by kernel_rfl) (by kernel_rfl) (by kernel_rfl) (by kernel_rfl) (fun _ _ _ h => h) HX1.out (Or.inl ⟨rfl, fun W hS => by go_simp⟩) ?_
        refine anyHI_take (i := 6) (.string (nth zConf l k).col) rfl (by kernel_rfl) (by kernel_rfl) (by kernel_rfl) (by kernel_rfl) (by kernel_rfl) (fun _ _ _ h => h) HX1.out (Or.inl ⟨rfl, fun W hS => by have z := blk_cell hS 2; simp only [List.getElem?_toArray, List.getElem?_cons_zero, List.getElem?_cons_succ] at z; go_simp⟩) ?_
        refine anyHI_take (i := 7) (.pointer (some ⟨wr.heap.size, 3, none⟩)) rfl (by kernel_rfl) (by kernel_rfl) (by kernel_rfl) (by kernel_rfl) (by kernel_rfl) (fun _ _ _ h => h) HX1.out (Or.inl ⟨rfl, fun W hS => by go_simp⟩) ?_
        refine anyHI_take (i := 8) (.string (nth zConf l k).base) rfl (by kernel_rfl) (by kernel_rfl) (by kernel_rfl) (by kernel_rfl) (by kernel_rfl) (fun _ _ _ h => h) HX1.out (Or.inl ⟨rfl, fun W hS => by have z := blk_cell hS 3; simp only [List.getElem?_toArray, List.getElem?_cons_zero, List.getElem?_cons_succ] at z; go_simp⟩) ?_
        refine anyHI_take (i := 9) (.pointer (some ⟨wr.heap.size, 4, none⟩)) rfl (by kernel_rfl) (by kernel_rfl) (by kernel_rfl) (by kernel_rfl) (by kernel_rfl) (fun _ _ _ h => h) HX1.out (Or.inl ⟨rfl, fun W hS => by go_simp⟩) ?_
        refine anyHI_take (i := 10) (.string (nth zConf l k).ours) rfl (by kernel_rfl) (by kernel_rfl) (by kernel_rfl) (by kernel_rfl) (by kernel_rfl) (fun _ _ _ h => h) HX1.out (Or.inl ⟨rfl, fun W hS => by have z := blk_cell hS 4; simp only [List.getElem?_toArray, List.getElem?_cons_zero, List.getElem?_cons_succ] at z; go_simp⟩) ?_
        refine anyHI_take (i := 11) (.pointer (some ⟨wr.heap.size, 5, none⟩)) rfl (by kernel_rfl) (by kernel_rfl) (by kernel_rfl) (by kernel_rfl) (by kernel_rfl) (fun _ _ _ h => h) HX1.out (Or.inl ⟨rfl, fun W hS => by go_simp⟩) ?_
        refine anyHI_take (i := 12) (.string (nth zConf l k).them) rfl (by kernel_rfl) (by kernel_rfl) (by kernel_rfl) (by kernel_rfl) (by kernel_rfl) (fun _ _ _ h => h) HX1.out (Or.inl ⟨rfl, fun W hS => by have z := blk_cell hS 5; simp only [List.getElem?_toArray, List.getElem?_cons_zero, List.getElem?_cons_succ] at z; go_simp⟩) ?_
        refine anyHI_take (i := 14) _ rfl (by kernel_rfl) (by kernel_rfl) (by kernel_rfl) (by kernel_rfl) (by kernel_rfl) (fun _ _ _ h => h) HX1.out (Or.inl ⟨rfl, fun W hS => rfl⟩) ?_
        refine anyHI_only (i := 4) rfl (by kernel_rfl) rfl ?_
        go_simp
        refine ⟨trivial, rfl, (callsIn_wide.2 (number_calls _ r1 r2 _ (HP.out.below HW1.out.drew))).mono ?_⟩
        rintro e w2 ⟨rfl, hb2⟩
        refine ⟨fun h => blk_below h hb2, ?_⟩
        refine anyHI_only (i := 13) rfl (by kernel_rfl) rfl ?_
        go_simp
        refine ⟨fun h => blk_alloc h _, ?_⟩
        have HW2 := Aside0.mk (below_trans (below_trans HB1.out.drew hb2) (below1 w2 (.cells (encs Value.string (recOf (nth zConf l k))).toArray 9)))
        have HO3 := Aside0.mk (Kd.R_of_own (ok := fun _ => True) (enc := Value.string) (h1 := fun _ => rfl) (xs := recOf (nth zConf l k)) (base := w0.heap.size) (own_lit_of (enc := Value.string) w2 w0.heap.size 9 (recOf (nth zConf l k)) (Nat.le_trans HW1.out.size hb2.size) (by simp [recOf])) (fun _ _ => trivial))
        have hJ3 := hJ pre wr _ none HJ.out (grown_of_below HW2.out none) (fun r e => by cases e)
        have hpre : (pre ++ [((nth zConf l k), (Value.slice (some ⟨w2.heap.size, 0, none⟩) 6 6))]).map (·.1) = l.take (k + 1) := by
          rw [List.map_append, HT.out, take_nth zConf hlt]; rfl
        have hsp := (uptoOk_take hlt HO.out).1
        have hend := (uptoOk_take hlt HO.out).2
        obtain ⟨fn, tmps, assign, body, hy, hR⟩ := HY.out pre ((nth zConf l k), (Value.slice (some ⟨w2.heap.size, 0, none⟩) 6 6)) _ hJ3 (by rw [hpre]; exact hsp) HO3.out
        dsimp only at hy
        rw [HK.out] at hy
        have HPRE := Aside0.mk hpre
        have HEND := Aside0.mk hend
        have HSP := Aside0.mk hsp
        have HRR := Aside0.mk hR
        clear hpre hend hsp hR hJ3
        refine anyHI_only (i := 15) rfl (by kernel_rfl) rfl ?_
        have hy2 : (Instr.yield lp #[Value.slice (some ⟨w2.heap.size, 0, none⟩) 6 6, _]).run Tryd.prog (w2.alloc (.cells #[.string (wordOf (nth zConf l k).kind), .string (numberOf (nth zConf l k).row), .string (nth zConf l k).col, .string (nth zConf l k).base, .string (nth zConf l k).ours, .string (nth zConf l k).them] 9)) = _ := hy
        clear hy
        go_simp
        refine ⟨rfl, HRR.out.mono ?_⟩
        rintro e w3 (⟨rfl, hj3, hb3⟩ | ⟨rfl, hj3⟩ | ⟨ch, rfl, hj3⟩)
        · dsimp only
          refine anyHI_only (i := 16) rfl (by kernel_rfl) rfl ?_
          go_simp
          refine anyHI_only (i := 17) rfl (by kernel_rfl) rfl ?_
          go_simp
          refine anyHI_only (i := 18) rfl (by kernel_rfl) rfl ?_
          go_simp
          refine anyHI_only (i := 19) rfl (by kernel_rfl) rfl ?_
          go_simp
          refine anyHI_only (i := 20) rfl (by kernel_rfl) rfl ?_
          go_simp
          refine anyHI_done (by kernel_rfl) ?_ _
          gi_wp2
          first
            | (refine bodyPost_ret (results_none rfl _ _ _) rfl ?_
               exact .inl ⟨⟨_, rfl⟩, .inl ⟨_, by rw [HPRE.out]; exact HEND.out HK.out, hj3⟩⟩)
            | (go_roundw
               case measure => simp [intOf]; omega
               case rel => exact ⟨k + 1, _, by go_num, by omega, HPRE, ⟨by rw [take_nth zConf hlt]; intro c hc; rcases List.mem_append.1 hc with h | h; exact HO.out c h; rw [List.mem_singleton.1 h]; exact HK.out⟩, ⟨hj3⟩, ⟨(below_trans HB.out HW2.out).trans hb3⟩⟩)
        · dsimp only
          refine anyHI_only (i := 16) rfl (by kernel_rfl) rfl ?_
          go_simp
          refine anyHI_only (i := 17) rfl (by kernel_rfl) rfl ?_
          go_simp
          refine anyHI_skip (i := 18) rfl (by kernel_rfl) rfl ?_
          refine anyHI_skip (i := 19) rfl (by kernel_rfl) rfl ?_
          refine anyHI_only (i := 20) rfl (by kernel_rfl) rfl ?_
          go_simp
          refine anyHI_done (by kernel_rfl) ?_ _
          gi_wp2
          refine bodyPost_ret (results_none rfl _ _ _) rfl ?_
          exact .inl ⟨⟨_, rfl⟩, .inr ⟨_, by rw [HPRE.out]; exact HSP.out, hj3⟩⟩
        · refine ⟨rfl, .inr ⟨_, _, rfl, by rw [HPRE.out]; exact HSP.out, hj3⟩⟩
    · gi_wp2
      refine bodyPost_end (results_none rfl _ _ _) rfl ?_
      exact .inl ⟨⟨_, rfl⟩, .inl ⟨pre, by have h := HO.out; rw [HT.out]; rw [take_all (by omega)] at h ⊢; exact (uptoOk_all h).symm, HJ.out⟩⟩
end Go.Proofs.YthgjjfgedcaogaaDoor
