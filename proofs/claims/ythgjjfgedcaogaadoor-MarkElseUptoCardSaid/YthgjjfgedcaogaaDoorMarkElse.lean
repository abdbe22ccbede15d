/- tartanlaw24.MarkElse: marks change no cell without a conflict. -/
import Derived.Test.YthgjjfgedcaogaaDoorMarkWorks
import Derived.Test.YthgjjfgedcaogaaDoorMarkFew
import Derived.Test.YthgjjfgedcaogaaDoorReg
namespace Go.Proofs.YthgjjfgedcaogaaDoor
open Go.RowKit Go.Shelf Go.Proofs.YthgjjfgedcaogaaDoorW.PrintWords Go.Proofs.YthgjjfgedcaogaaDoorW.PrintLast Go.Proofs.YthgjjfgedcaogaaDoorW.PrintMore
attribute [local go_sem] Oper.semAt_some

def hit (t : Tab) (row col : Int) (c : Conf) : Prop := c.row = row ∧ (c.kind = 5 ∨ c.kind = 4) ∧ findS t.head c.col = col
theorem nth_set {α : Type} (d : α) (l : List α) (i k : Nat) (x : α) (_hi : i < l.length) : nth d (l.set i x) k = if i = k then x else nth d l k := by
  simp only [nth, List.getD_eq_getElem?_getD, List.getElem?_set]
  split
  · rename_i h; subst h; rfl
  · rfl
theorem cell_set (rows : List (List Str)) (i j : Nat) (s : Str) (row col : Int) (hi : i < rows.length) (hj : j < (nthR rows i).length) (h : ¬ ((i : Int) = row ∧ (j : Int) = col)) : cellOf (rows.set i ((nthR rows i).set j s)) row col = cellOf rows row col := by
  unfold cellOf
  simp only [List.length_set]
  by_cases hr : 0 ≤ row ∧ row < (rows.length : Int)
  · obtain ⟨k, rfl⟩ : ∃ k : Nat, row = (k : Int) := ⟨row.toNat, by omega⟩
    simp only [Int.toNat_natCast]
    rw [show nthR (rows.set i ((nthR rows i).set j s)) k = if i = k then (nthR rows i).set j s else nthR rows k from nth_set _ _ _ _ _ hi]
    by_cases hik : i = k
    · subst hik
      simp only [if_true, List.length_set]
      by_cases hc : 0 ≤ col ∧ col < ((nthR rows i).length : Int)
      · obtain ⟨c, rfl⟩ : ∃ c : Nat, col = (c : Int) := ⟨col.toNat, by omega⟩
        simp only [Int.toNat_natCast]
        rw [if_pos ⟨hr.1, hr.2, hc.1, hc.2⟩, if_pos ⟨hr.1, hr.2, hc.1, hc.2⟩, show nthS ((nthR rows i).set j s) c = if j = c then s else nthS (nthR rows i) c from nth_set _ _ _ _ _ hj]
        exact if_neg (fun e : j = c => h ⟨rfl, by omega⟩)
      · rw [if_neg (by omega), if_neg (by omega)]
    · rw [if_neg hik]
  · rw [if_neg (by omega), if_neg (by omega)]
theorem markOne_cell {t : Tab} {rows : List (List Str)} {row col : Int} {c : Conf} (h : ¬ hit t row col c) : cellOf (markOne t.head rows c) row col = cellOf rows row col := by
  unfold markOne
  split
  · rename_i hk
    obtain ⟨hk, h1, h2, h3, h4⟩ := hk
    exact cell_set rows _ _ _ row col (by omega) (by omega) (fun ⟨e1, e2⟩ => h ⟨by omega, hk, by omega⟩)
  · rfl
theorem markRows_cell {t : Tab} {row col : Int} : ∀ (l : List Conf) (rows : List (List Str)), (∀ c ∈ l, ¬ hit t row col c) → cellOf (markRows t.head rows l) row col = cellOf rows row col
  | [], _, _ => rfl
  | c :: l, rows, h => (markRows_cell l (markOne t.head rows c) (fun x hx => h x (List.mem_cons_of_mem _ hx))).trans (markOne_cell (h c List.mem_cons_self))

theorem hits_succ {t : Tab} {row col : Int} {l : List Conf} {k : Nat} (hk : k < l.length) (h : ∀ c ∈ l.take k, ¬ hit t row col c) (h' : ¬ hit t row col (nth zConf l k)) : ∀ c ∈ l.take (k + 1), ¬ hit t row col c := by
  rw [take_nth zConf hk]
  intro c hc
  rcases List.mem_append.1 hc with hc | hc
  · exact h c hc
  · rw [List.mem_singleton.1 hc]; exact h'
def SomeB (e : Ending) : Prop := ∃ b : Bool, e = .returned (.bool b)
theorem RdT.parts {w : World} {a b : Value} {t : Tab} (h : RdT w (.agg #[a, b]) t) : Rd kStr w a t.head ∧ Rd kRow w b t.rows := by
  obtain ⟨v0, v1, e, h0, h1⟩ := h
  simp only [Value.agg.injEq, Array.mk.injEq, List.cons.injEq, and_true] at e
  obtain ⟨rfl, rfl⟩ := e
  exact ⟨h0, h1⟩
set_option maxHeartbeats 400000 in
theorem FewC_calls (w : World) (v : Value) (l : List Conf) (hv : Rd kConf w v l) (hC : ∀ c ∈ l, c.col.size ≤ 1048576 ∧ c.base.size ≤ 1048576 ∧ c.ours.size ≤ 1048576 ∧ c.them.size ≤ 1048576) :
    Calls Tryd.prog 11 #[v] w fun e w' => SomeB e ∧ Below w.heap.size w w' := by
  obtain ⟨A, c, rfl, hc, hr⟩ := hv
  have HR := Aside0.mk hr
  have HC := Aside0.mk hC
  have hm := Kd.C_max hr
  clear hr hC
  by_cases h60 : (l.length : Int) > 60
  · go_enter Tryd.func11, Tryd.ntmps11
    go_wp2
    go_ret
    exact ⟨⟨_, rfl⟩, Below.refl _ _⟩
  · have hb60 : decide ((l.length : Int) > 60) = false := decide_eq_false h60
    have hb60' : decide (60 < (l.length : Int)) = false := decide_eq_false h60
    have h60' : l.length ≤ 60 := by omega
    clear h60
    go_enter Tryd.func11, Tryd.ntmps11
    go_wp2
    go_loopw [3, 4] (fun v3 v4 w' => ∃ (k n : Nat), v3 = .int .i64 n ∧ v4 = .int .i64 k ∧ n ≤ k * 4194304 ∧ k ≤ l.length ∧ Drawn0 w w') (fun _ v4 _ => l.length - (intOf v4).toNat)
    case atStart => exact ⟨0, 0, rfl, rfl, by omega, Nat.zero_le _, Drawn0.refl _⟩
    case round =>
      obtain ⟨k, n, rfl, rfl, hn, hk, ⟨m, rfl⟩⟩ := hrel
      by_cases hlt : k < l.length
      · have q : (k : Int) < (l.length : Int) := by omega
        obtain ⟨ad, e, x0, x1, x2, x3, x4, x5⟩ := C_Conf HR.out hlt
        cases e
        obtain ⟨s2, s3, s4, s5⟩ := HC.out _ (mem_nth zConf hlt)
        go_wp2
        go_quiet (fail)
        go_wp2
        go_roundw
        case measure => simp [intOf]; omega
        case rel => exact ⟨k + 1, n + (nth zConf l k).col.size + (nth zConf l k).base.size + (nth zConf l k).ours.size + (nth zConf l k).them.size, by go_num, by go_num, by omega, by omega, (Drawn0.refl _).step _⟩
      · by_cases h6 : (n : Int) ≤ 6000
        · have hb6 : decide ((n : Int) ≤ 6000) = true := decide_eq_true h6
          go_wp2
          go_ret
          exact ⟨⟨_, rfl⟩, below_drewN (Below.refl _ _) _⟩
        · have hb6 : decide ((n : Int) ≤ 6000) = false := decide_eq_false h6
          go_wp2
          go_ret
          exact ⟨⟨_, rfl⟩, below_drewN (Below.refl _ _) _⟩

set_option maxRecDepth 4000 in
set_option maxHeartbeats 4000000 in
theorem MarkElse_calls (w : World) (v vl : Value) (t : Tab) (l : List Conf) (row col : Int) (hv : RdT w v t) (hl : Rd kConf w vl l) (he : Env w) (hH : BRow t.head) (hB : BRows t.rows)
    (hC : l.length ≤ 1048576 ∧ ∀ c ∈ l, c.col.size ≤ 1048576 ∧ c.base.size ≤ 1048576 ∧ c.ours.size ≤ 1048576 ∧ c.them.size ≤ 1048576) :
    Calls Tryd.prog 4 #[v, vl, .int .i64 row, .int .i64 col] w fun e w' => e = .returned (.bool true) ∧ Below w.heap.size w w' := by
  have HT := Aside0.mk hv
  obtain ⟨v0, v1, rfl, ⟨Ah, ch, rfl, -, -⟩, ⟨Ar, cr, rfl, -, -⟩⟩ := hv
  have HL := Aside0.mk hl
  obtain ⟨Al, cl, rfl, hcl, hrl⟩ := hl
  have ml := Kd.C_max hrl
  have HE := Aside0.mk he
  have HBH := Aside0.mk hH
  have HB := Aside0.mk hB
  have HC := Aside0.mk hC
  clear he hH hB hC hrl
  go_enter Tryd.func4, Tryd.ntmps4
  go_wp2_with fail
  refine (works_calls _ (HE.out.below (below1 _ _))).mono ?_
  rintro e w1 ⟨rfl, hb1⟩
  have B1 := Aside0.mk (below_trans (below1 w _) hb1)
  have X1 := Aside0.mk (blk_below (heap_alloc_new w (.cells #[.slice Ah t.head.length ch, .slice Ar t.rows.length cr] 34)) hb1)
  have y0 := blk_cell X1.out 0
  have y1 := blk_cell X1.out 1
  simp only [List.getElem?_toArray, List.getElem?_cons_zero, List.getElem?_cons_succ] at y0 y1
  clear hb1
  go_wp2_with fail
  refine (FewT_calls _ _ t (HT.out.below B1.out) HBH.out HB.out).mono ?_
  rintro e w2 ⟨⟨b, rfl⟩, hb2⟩
  have B2 := Aside0.mk (below_trans B1.out hb2)
  have X2 := Aside0.mk (blk_below X1.out hb2)
  clear hb2 y0 y1
  cases b with
  | false =>
    go_wp2
    go_ret
    exact ⟨rfl, B2.out⟩
  | true =>
    go_wp2_with fail
    refine (FewC_calls _ _ l (HL.out.below B2.out) HC.out.2).mono ?_
    rintro e w3 ⟨⟨b, rfl⟩, hb3⟩
    have B3 := Aside0.mk (below_trans B2.out hb3)
    have X3 := Aside0.mk (blk_below X2.out hb3)
    clear hb3
    cases b with
    | false =>
      go_wp2
      go_ret
      exact ⟨rfl, B3.out⟩
    | true =>
      have y0 := blk_cell X3.out 0
      have y1 := blk_cell X3.out 1
      simp only [List.getElem?_toArray, List.getElem?_cons_zero, List.getElem?_cons_succ] at y0 y1
      go_wp2_with fail
      refine (Mark_calls _ _ _ t l (HT.out.below B3.out) (HL.out.below B3.out) HB.out HBH.out.1 ⟨HC.out.1, fun c hc => (HC.out.2 c hc).2⟩).mono ?_
      rintro e w4 ⟨⟨vn, rfl, hN⟩, hb4⟩
      have HN := Aside0.mk hN
      obtain ⟨n0, n1, rfl, ⟨An, cn, rfl, -, -⟩, ⟨Am, cm, rfl, -, -⟩⟩ := hN
      dsimp only at HN ⊢
      have hlen : (markRows t.head t.rows l).length = t.rows.length := markRows_length _ _ _
      rw [hlen] at HN ⊢
      have B4 := Aside0.mk (below_trans B3.out hb4)
      have X4 := Aside0.mk (blk_below X3.out hb4)
      clear hb4 y0 y1 hlen
      have y0 := blk_cell (blk_alloc X4.out (.cells #[.slice An t.head.length cn, .slice Am t.rows.length cm] 34)) 0
      simp only [List.getElem?_toArray, List.getElem?_cons_zero] at y0
      go_wp2_with fail
      clear y0
      obtain ⟨g, hg⟩ : ∃ g, w4.heap.size = g := ⟨_, rfl⟩
      obtain ⟨w5, hw5⟩ : ∃ w5, w4.alloc (.cells #[.slice An t.head.length cn, .slice Am t.rows.length cm] 34) = w5 := ⟨_, rfl⟩
      have B5 : Aside0 (Below w.heap.size w w5) := ⟨by rw [← hw5]; exact B4.out.alloc B4.out.size _⟩
      have X5 : Aside0 (w5.heap[w.heap.size]? = some (.cells #[.slice Ah t.head.length ch, .slice Ar t.rows.length cr] 34 (0, 0))) := ⟨by rw [← hw5]; exact blk_alloc X4.out _⟩
      have N5 : Aside0 (w5.heap[g]? = some (.cells #[.slice An t.head.length cn, .slice Am t.rows.length cm] 34 (0, 0))) := ⟨by rw [← hw5, ← hg]; exact heap_alloc_new _ _⟩
      have HN5 : Aside0 (RdT w5 (.agg #[.slice An t.head.length cn, .slice Am t.rows.length cm]) ⟨t.head, markRows t.head t.rows l⟩) := ⟨by rw [← hw5]; exact HN.out.below (below1 _ _)⟩
      rw [hw5, hg]
      clear hw5 hg
      refine (Row_calls _ _ _ t.head t.head HN5.out.parts.1 (HT.out.below B5.out).parts.1).mono ?_
      rw [decide_eq_true rfl]
      rintro e w6 ⟨rfl, ⟨m, rfl⟩⟩
      obtain ⟨w6, hw6⟩ : ∃ w6, w5.drewN m = w6 := ⟨_, rfl⟩
      have b6 : Below w5.heap.size w5 w6 := by rw [← hw6]; exact below_drewN (Below.refl _ _) m
      have B6 := Aside0.mk (below_trans B5.out b6)
      have X6 := Aside0.mk (blk_below X5.out b6)
      have N6 := Aside0.mk (blk_below N5.out b6)
      have HN6 := Aside0.mk (HN5.out.below b6)
      have HT6 := Aside0.mk (HT.out.below (below_trans B5.out b6))
      obtain ⟨_, _, el, -, hl6⟩ := HL.out.below (below_trans B5.out b6)
      simp only [Value.slice.injEq] at el
      obtain ⟨rfl, -, rfl⟩ := el
      have HL6 := Aside0.mk hl6
      rw [hw6]
      clear hw6 b6 hl6 HN5 HN N5 X5
      go_wp2
      go_loopw [13, 14] (fun v13 v14 W => ∃ (k : Nat) (b : Bool), v14 = .int .i64 (k : Int) ∧ v13 = .bool b ∧ k ≤ l.length ∧ Aside0 (b = false → ∀ c ∈ l.take k, ¬ hit t row col c) ∧ Aside0 (Below w6.heap.size w6 W)) (fun _ v14 _ => l.length - (intOf v14).toNat)
      case atStart => exact ⟨0, false, rfl, rfl, Nat.zero_le _, ⟨by simp⟩, ⟨Below.refl _ _⟩⟩
      case round =>
        obtain ⟨k, b, rfl, rfl, hk, HH, HW⟩ := hrel
        by_cases hlt : k < l.length
        · have q : (k : Int) < (l.length : Int) := by omega
          obtain ⟨ad, e, x0, x1, x2, x3, x4, x5⟩ := C_Conf (Kd.C_below HL6.out HW.out) hlt
          cases e
          obtain ⟨cf, hcf⟩ : ∃ cf, nth zConf l k = cf := ⟨_, rfl⟩
          rw [hcf] at x0 x1 x2 x3 x4 x5
          have HCF := Aside0.mk hcf
          clear hcf
          have hS : Below wr.heap.size wr wr.drew := (Below.refl _ _).drew
          have quiet : b = true ∨ (b = false ∧ (cf.row ≠ row ∨ (cf.row = row ∧ ((cf.kind ≠ 5 ∧ cf.kind ≠ 4) ∨ cf.kind = 5 ∨ (cf.kind ≠ 5 ∧ cf.kind = 4))))) := by cases b <;> simp; omega
          rcases quiet with rfl | ⟨hbf, hr | ⟨hr, ⟨h5, h4⟩ | h5 | ⟨h5, h4⟩⟩⟩
          · go_wp2_with fail
            go_quiet (fail)
            go_wp2
            go_roundw
            case measure => simp [intOf]; omega
            case rel => exact ⟨k + 1, true, by go_num, rfl, by omega, ⟨fun h => by cases h⟩, ⟨by repeat (first | exact HW.out | apply Below.drew | apply pw_below_drewN)⟩⟩
          · have f1 : (cf.row == row) = false := by simpa using hr
            have HH' := Aside0.mk (HH.out hbf)
            clear HH
            subst hbf
            have HR1 := Aside0.mk hr
            clear hr
            go_wp2_with fail
            go_quiet (fail)
            go_wp2
            go_roundw
            case measure => simp [intOf]; omega
            case rel => exact ⟨k + 1, false, by go_num, rfl, by omega, ⟨fun _ => hits_succ hlt HH'.out (fun h => HR1.out (by rw [← HCF.out]; exact h.1))⟩, ⟨by repeat (first | exact HW.out | apply Below.drew | apply pw_below_drewN)⟩⟩
          · have f1 : (cf.row == row) = true := by simpa using hr
            have HH' := Aside0.mk (HH.out hbf)
            clear HH
            subst hbf
            have f2 : (cf.kind == 5) = false := by simpa using h5
            have f3 : (cf.kind == 4) = false := by simpa using h4
            have HR1 := Aside0.mk h5
            have HR2 := Aside0.mk h4
            clear hr h5 h4
            go_wp2_with fail
            go_quiet (fail)
            go_wp2
            go_roundw
            case measure => simp [intOf]; omega
            case rel => exact ⟨k + 1, false, by go_num, rfl, by omega, ⟨fun _ => hits_succ hlt HH'.out (fun h => by rw [HCF.out] at h; rcases h.2.1 with h | h; exact HR1.out h; exact HR2.out h)⟩, ⟨by repeat (first | exact HW.out | apply Below.drew | apply pw_below_drewN)⟩⟩
          · have f1 : (cf.row == row) = true := by simpa using hr
            have HH' := Aside0.mk (HH.out hbf)
            clear HH
            subst hbf
            have f2 : (cf.kind == 5) = true := by simpa using h5
            clear hr h5
            obtain ⟨b', hb'⟩ : ∃ b', (findS t.head cf.col == col) = b' := ⟨_, rfl⟩
            have HBB := Aside0.mk hb'
            go_wp2_with fail
            refine region_s0 (fun W => Below wr.heap.size wr W) [] (by kernel_rfl) hS ?_
            refine tk 0 rfl (by kernel_rfl) rfl (fun W hS => by go_simp <;> rfl) ?_
            go_simp
            refine tk 1 rfl (by kernel_rfl) rfl (fun W hS => by go_simp <;> rfl) ?_
            go_simp
            refine tk 2 rfl (by kernel_rfl) rfl (fun W hS => by go_simp <;> rfl) ?_
            go_simp
            refine tk 3 rfl (by kernel_rfl) rfl (fun W hS => by go_simp <;> rfl) ?_
            go_simp
            refine tk 4 rfl (by kernel_rfl) rfl (fun W hS => by go_simp <;> rfl) ?_
            go_simp
            refine tk 5 rfl (by kernel_rfl) rfl (fun W hS => by go_simp <;> rfl) ?_
            go_simp
            refine tk 6 rfl (by kernel_rfl) rfl (fun W hS => by have z := pw_cell_below hS x1; go_simp <;> rfl) ?_
            go_simp
            refine tk 7 rfl (by kernel_rfl) rfl (fun W hS => by go_simp <;> rfl) ?_
            go_simp
            refine tk 8 rfl (by kernel_rfl) rfl (fun W hS => by go_simp <;> rfl) ?_
            go_simp
            refine tk 9 rfl (by kernel_rfl) rfl (fun W hS => by go_simp <;> rfl) ?_
            go_simp
            refine tk 10 rfl (by kernel_rfl) rfl (fun W hS => by go_simp <;> rfl) ?_
            go_simp
            refine tk 11 rfl (by kernel_rfl) rfl (fun W hS => by go_simp <;> rfl) ?_
            go_simp
            refine tk 12 rfl (by kernel_rfl) rfl (fun W hS => by go_simp <;> rfl) ?_
            go_simp
            refine tk 13 rfl (by kernel_rfl) rfl (fun W hS => by go_simp <;> rfl) ?_
            go_simp
            refine tk 14 rfl (by kernel_rfl) rfl (fun W hS => by have z := pw_cell_below hS x0; go_simp <;> rfl) ?_
            go_simp
            refine tk 15 rfl (by kernel_rfl) rfl (fun W hS => by go_simp <;> rfl) ?_
            go_simp
            refine tk 16 rfl (by kernel_rfl) rfl (fun W hS => by go_simp <;> rfl) ?_
            go_simp
            refine tkN 17 rfl (by kernel_rfl) rfl ?_
            go_simp
            refine tkN 18 rfl (by kernel_rfl) rfl ?_
            go_simp
            refine tkN 19 rfl (by kernel_rfl) rfl ?_
            go_simp
            refine tkN 20 rfl (by kernel_rfl) rfl ?_
            go_simp
            refine tkN 21 rfl (by kernel_rfl) rfl ?_
            go_simp
            refine tkN 22 rfl (by kernel_rfl) rfl ?_
            go_simp
            refine tk 23 rfl (by kernel_rfl) rfl (fun W hS => by go_simp <;> rfl) ?_
            go_simp
            refine tk 24 rfl (by kernel_rfl) rfl (fun W hS => by go_simp <;> rfl) ?_
            go_simp
            refine tk 25 rfl (by kernel_rfl) rfl (fun W hS => by go_simp <;> rfl) ?_
            go_simp
            refine tk 26 rfl (by kernel_rfl) rfl (fun W hS => by have q0 := blk_cell (blk_below X6.out (below_trans HW.out hS)) 0; have q1 := blk_cell (blk_below X6.out (below_trans HW.out hS)) 1; simp only [List.getElem?_toArray, List.getElem?_cons_zero, List.getElem?_cons_succ] at q0 q1; go_simp <;> rfl) ?_
            go_simp
            refine tk 27 rfl (by kernel_rfl) rfl (fun W hS => by go_simp <;> rfl) ?_
            go_simp
            refine tk 28 rfl (by kernel_rfl) rfl (fun W hS => by go_simp <;> rfl) ?_
            go_simp
            refine tk 29 rfl (by kernel_rfl) rfl (fun W hS => by go_simp <;> rfl) ?_
            go_simp
            refine tk 30 rfl (by kernel_rfl) rfl (fun W hS => by go_simp <;> rfl) ?_
            go_simp
            refine tk 31 rfl (by kernel_rfl) rfl (fun W hS => by have z := pw_cell_below hS x2; go_simp <;> rfl) ?_
            go_simp
            refine tkC 32 rfl (by kernel_rfl) rfl (fun W => by go_simp <;> first | rfl | exact ⟨rfl, rfl⟩) (fun W hS => (Find_calls W _ t cf.col (HT6.out.below (below_trans HW.out hS))).mono fun e W' ⟨he, hb⟩ => ⟨he, below_trans hS hb⟩) ?_
            go_simp
            refine tk 33 rfl (by kernel_rfl) rfl (fun W hS => by go_simp <;> rfl) ?_
            go_simp
            refine tk 34 rfl (by kernel_rfl) rfl (fun W hS => by go_simp <;> rfl) ?_
            go_simp
            refine tk 35 rfl (by kernel_rfl) rfl (fun W hS => by go_simp <;> rfl) ?_
            go_simp
            refine tk 36 rfl (by kernel_rfl) rfl (fun W hS => by go_simp <;> rfl) ?_
            go_simp
            refine tk 37 rfl (by kernel_rfl) rfl (fun W hS => by go_simp <;> rfl) ?_
            go_simp
            refine tk0 (by kernel_rfl) (fun W hS => ?_) _
            go_wp2
            go_roundw
            case measure => simp [intOf]; omega
            case rel => exact ⟨k + 1, b', by go_num, rfl, by omega, ⟨fun h => hits_succ hlt HH'.out (fun hh => by have e := HBB.out; rw [h] at e; rw [HCF.out] at hh; simp at e; exact e hh.2.2)⟩, ⟨below_trans HW.out hS⟩⟩
          · have f1 : (cf.row == row) = true := by simpa using hr
            have HH' := Aside0.mk (HH.out hbf)
            clear HH
            subst hbf
            have f2 : (cf.kind == 5) = false := by simpa using h5
            have f3 : (cf.kind == 4) = true := by simpa using h4
            clear hr h5 h4
            obtain ⟨b', hb'⟩ : ∃ b', (findS t.head cf.col == col) = b' := ⟨_, rfl⟩
            have HBB := Aside0.mk hb'
            go_wp2_with fail
            refine region_s0 (fun W => Below wr.heap.size wr W) [] (by kernel_rfl) hS ?_
            refine tk 0 rfl (by kernel_rfl) rfl (fun W hS => by go_simp <;> rfl) ?_
            go_simp
            refine tk 1 rfl (by kernel_rfl) rfl (fun W hS => by go_simp <;> rfl) ?_
            go_simp
            refine tk 2 rfl (by kernel_rfl) rfl (fun W hS => by go_simp <;> rfl) ?_
            go_simp
            refine tk 3 rfl (by kernel_rfl) rfl (fun W hS => by go_simp <;> rfl) ?_
            go_simp
            refine tk 4 rfl (by kernel_rfl) rfl (fun W hS => by go_simp <;> rfl) ?_
            go_simp
            refine tk 5 rfl (by kernel_rfl) rfl (fun W hS => by go_simp <;> rfl) ?_
            go_simp
            refine tk 6 rfl (by kernel_rfl) rfl (fun W hS => by have z := pw_cell_below hS x1; go_simp <;> rfl) ?_
            go_simp
            refine tk 7 rfl (by kernel_rfl) rfl (fun W hS => by go_simp <;> rfl) ?_
            go_simp
            refine tk 8 rfl (by kernel_rfl) rfl (fun W hS => by go_simp <;> rfl) ?_
            go_simp
            refine tk 9 rfl (by kernel_rfl) rfl (fun W hS => by go_simp <;> rfl) ?_
            go_simp
            refine tk 10 rfl (by kernel_rfl) rfl (fun W hS => by go_simp <;> rfl) ?_
            go_simp
            refine tk 11 rfl (by kernel_rfl) rfl (fun W hS => by go_simp <;> rfl) ?_
            go_simp
            refine tk 12 rfl (by kernel_rfl) rfl (fun W hS => by go_simp <;> rfl) ?_
            go_simp
            refine tk 13 rfl (by kernel_rfl) rfl (fun W hS => by go_simp <;> rfl) ?_
            go_simp
            refine tk 14 rfl (by kernel_rfl) rfl (fun W hS => by have z := pw_cell_below hS x0; go_simp <;> rfl) ?_
            go_simp
            refine tk 15 rfl (by kernel_rfl) rfl (fun W hS => by go_simp <;> rfl) ?_
            go_simp
            refine tk 16 rfl (by kernel_rfl) rfl (fun W hS => by go_simp <;> rfl) ?_
            go_simp
            refine tk 17 rfl (by kernel_rfl) rfl (fun W hS => by go_simp <;> rfl) ?_
            go_simp
            refine tk 18 rfl (by kernel_rfl) rfl (fun W hS => by go_simp <;> rfl) ?_
            go_simp
            refine tk 19 rfl (by kernel_rfl) rfl (fun W hS => by go_simp <;> rfl) ?_
            go_simp
            refine tk 20 rfl (by kernel_rfl) rfl (fun W hS => by go_simp <;> rfl) ?_
            go_simp
            refine tk 21 rfl (by kernel_rfl) rfl (fun W hS => by have z := pw_cell_below hS x0; go_simp <;> rfl) ?_
            go_simp
            refine tk 22 rfl (by kernel_rfl) rfl (fun W hS => by go_simp <;> rfl) ?_
            go_simp
            refine tk 23 rfl (by kernel_rfl) rfl (fun W hS => by go_simp <;> rfl) ?_
            go_simp
            refine tk 24 rfl (by kernel_rfl) rfl (fun W hS => by go_simp <;> rfl) ?_
            go_simp
            refine tk 25 rfl (by kernel_rfl) rfl (fun W hS => by go_simp <;> rfl) ?_
            go_simp
            refine tk 26 rfl (by kernel_rfl) rfl (fun W hS => by have q0 := blk_cell (blk_below X6.out (below_trans HW.out hS)) 0; have q1 := blk_cell (blk_below X6.out (below_trans HW.out hS)) 1; simp only [List.getElem?_toArray, List.getElem?_cons_zero, List.getElem?_cons_succ] at q0 q1; go_simp <;> rfl) ?_
            go_simp
            refine tk 27 rfl (by kernel_rfl) rfl (fun W hS => by go_simp <;> rfl) ?_
            go_simp
            refine tk 28 rfl (by kernel_rfl) rfl (fun W hS => by go_simp <;> rfl) ?_
            go_simp
            refine tk 29 rfl (by kernel_rfl) rfl (fun W hS => by go_simp <;> rfl) ?_
            go_simp
            refine tk 30 rfl (by kernel_rfl) rfl (fun W hS => by go_simp <;> rfl) ?_
            go_simp
            refine tk 31 rfl (by kernel_rfl) rfl (fun W hS => by have z := pw_cell_below hS x2; go_simp <;> rfl) ?_
            go_simp
            refine tkC 32 rfl (by kernel_rfl) rfl (fun W => by go_simp <;> first | rfl | exact ⟨rfl, rfl⟩) (fun W hS => (Find_calls W _ t cf.col (HT6.out.below (below_trans HW.out hS))).mono fun e W' ⟨he, hb⟩ => ⟨he, below_trans hS hb⟩) ?_
            go_simp
            refine tk 33 rfl (by kernel_rfl) rfl (fun W hS => by go_simp <;> rfl) ?_
            go_simp
            refine tk 34 rfl (by kernel_rfl) rfl (fun W hS => by go_simp <;> rfl) ?_
            go_simp
            refine tk 35 rfl (by kernel_rfl) rfl (fun W hS => by go_simp <;> rfl) ?_
            go_simp
            refine tk 36 rfl (by kernel_rfl) rfl (fun W hS => by go_simp <;> rfl) ?_
            go_simp
            refine tk 37 rfl (by kernel_rfl) rfl (fun W hS => by go_simp <;> rfl) ?_
            go_simp
            refine tk0 (by kernel_rfl) (fun W hS => ?_) _
            go_wp2
            go_roundw
            case measure => simp [intOf]; omega
            case rel => exact ⟨k + 1, b', by go_num, rfl, by omega, ⟨fun h => hits_succ hlt HH'.out (fun hh => by have e := HBB.out; rw [h] at e; rw [HCF.out] at hh; simp at e; exact e hh.2.2)⟩, ⟨below_trans HW.out hS⟩⟩
        · have hke : l.take k = l := take_all (by omega)
          rw [hke] at HH
          clear hke
          have X7 := Aside0.mk (blk_below X6.out HW.out)
          have N7 := Aside0.mk (blk_below N6.out HW.out)
          have HN7 := Aside0.mk (HN6.out.below HW.out)
          have HT7 := Aside0.mk (HT6.out.below HW.out)
          have y0 := blk_cell X7.out 0
          have y1 := blk_cell X7.out 1
          have z0 := blk_cell N7.out 0
          have z1 := blk_cell N7.out 1
          simp only [List.getElem?_toArray, List.getElem?_cons_zero, List.getElem?_cons_succ] at y0 y1 z0 z1
          have hS : Below wr.heap.size wr wr.drew := (Below.refl _ _).drew
          cases b with
          | true =>
            go_wp2_with fail
            go_quiet (fail)
            go_wp2
            go_ret
            exact ⟨rfl, by repeat (first | exact below_trans B6.out HW.out | apply Below.drew | apply pw_below_drewN)⟩
          | false =>
            have hcell := markRows_cell l t.rows (HH.out rfl)
            obtain ⟨s, hs⟩ : ∃ s, cellOf t.rows row col = s := ⟨_, rfl⟩
            have HC7 := Aside0.mk (hcell.trans hs)
            have HS7 := Aside0.mk hs
            have t1 : (s.toList == s.toList) = true := (str_eqB rfl).1
            clear hcell hs
            go_wp2_with fail
            refine region_s0 (fun W => Below wr.heap.size wr W) [] (by kernel_rfl) hS ?_
            refine tk 0 rfl (by kernel_rfl) rfl (fun W hS => by go_simp <;> rfl) ?_
            go_simp
            refine tk 1 rfl (by kernel_rfl) rfl (fun W hS => by go_simp <;> rfl) ?_
            go_simp
            refine tk 2 rfl (by kernel_rfl) rfl (fun W hS => by go_simp <;> rfl) ?_
            go_simp
            refine tk 3 rfl (by kernel_rfl) rfl (fun W hS => by go_simp <;> rfl) ?_
            go_simp
            refine tk 4 rfl (by kernel_rfl) rfl (fun W hS => by go_simp <;> rfl) ?_
            go_simp
            refine tk 5 rfl (by kernel_rfl) rfl (fun W hS => by go_simp <;> rfl) ?_
            go_simp
            refine tk 6 rfl (by kernel_rfl) rfl (fun W hS => by have z := pw_cell_below hS z1; go_simp <;> rfl) ?_
            go_simp
            refine tk 7 rfl (by kernel_rfl) rfl (fun W hS => by go_simp <;> rfl) ?_
            go_simp
            refine tk 8 rfl (by kernel_rfl) rfl (fun W hS => by go_simp <;> rfl) ?_
            go_simp
            refine tk 9 rfl (by kernel_rfl) rfl (fun W hS => by have z := pw_cell_below hS y1; go_simp <;> rfl) ?_
            go_simp
            refine tk 10 rfl (by kernel_rfl) rfl (fun W hS => by go_simp <;> rfl) ?_
            go_simp
            refine tk 11 rfl (by kernel_rfl) rfl (fun W hS => by go_simp <;> rfl) ?_
            go_simp
            refine tk 12 rfl (by kernel_rfl) rfl (fun W hS => by go_simp <;> rfl) ?_
            go_simp
            refine tk 13 rfl (by kernel_rfl) rfl (fun W hS => by go_simp <;> rfl) ?_
            go_simp
            refine tk 14 rfl (by kernel_rfl) rfl (fun W hS => by go_simp <;> rfl) ?_
            go_simp
            refine tk 15 rfl (by kernel_rfl) rfl (fun W hS => by go_simp <;> rfl) ?_
            go_simp
            refine tk 16 rfl (by kernel_rfl) rfl (fun W hS => by have q0 := pw_cell_below hS z0; have q1 := pw_cell_below hS z1; go_simp <;> rfl) ?_
            go_simp
            refine tk 17 rfl (by kernel_rfl) rfl (fun W hS => by go_simp <;> rfl) ?_
            go_simp
            refine tk 18 rfl (by kernel_rfl) rfl (fun W hS => by go_simp <;> rfl) ?_
            go_simp
            refine tkC 19 rfl (by kernel_rfl) rfl (fun W => by go_simp <;> first | rfl | exact ⟨rfl, rfl⟩) (fun W hS => (Cell_calls W _ _ row col (HN7.out.below hS)).mono fun e W' ⟨he, hb⟩ => ⟨by rw [he, HC7.out], below_trans hS hb⟩) ?_
            go_simp
            refine tk 20 rfl (by kernel_rfl) rfl (fun W hS => by have q0 := pw_cell_below hS y0; have q1 := pw_cell_below hS y1; go_simp <;> rfl) ?_
            go_simp
            refine tk 21 rfl (by kernel_rfl) rfl (fun W hS => by go_simp <;> rfl) ?_
            go_simp
            refine tk 22 rfl (by kernel_rfl) rfl (fun W hS => by go_simp <;> rfl) ?_
            go_simp
            refine tkC 23 rfl (by kernel_rfl) rfl (fun W => by go_simp <;> first | rfl | exact ⟨rfl, rfl⟩) (fun W hS => (Cell_calls W _ _ row col (HT7.out.below hS)).mono fun e W' ⟨he, hb⟩ => ⟨by rw [he, HS7.out], below_trans hS hb⟩) ?_
            go_simp
            refine tk 24 rfl (by kernel_rfl) rfl (fun W hS => by go_simp <;> rfl) ?_
            go_simp
            refine tk 25 rfl (by kernel_rfl) rfl (fun W hS => by go_simp <;> rfl) ?_
            go_simp
            refine tk 26 rfl (by kernel_rfl) rfl (fun W hS => by go_simp <;> rfl) ?_
            go_simp
            refine tk 27 rfl (by kernel_rfl) rfl (fun W hS => by go_simp <;> rfl) ?_
            go_simp
            refine tk0 (by kernel_rfl) (fun W hS => ?_) _
            go_wp2
            go_ret
            exact ⟨rfl, below_trans (below_trans B6.out HW.out) hS⟩
end Go.Proofs.YthgjjfgedcaogaaDoor
