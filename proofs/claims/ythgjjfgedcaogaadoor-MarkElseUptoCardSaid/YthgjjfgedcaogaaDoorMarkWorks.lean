/- tartanlaw24.works: the document's examples hold. -/
import Derived.Test.YthgjjfgedcaogaaDoorMarkMark
import Derived.Test.YthgjjfgedcaogaaDoorMarkRead
namespace Go.Proofs.YthgjjfgedcaogaaDoor
open Go.RowKit Go.Shelf Go.Proofs.YthgjjfgedcaogaaDoorW.PrintWords Go.Proofs.YthgjjfgedcaogaaDoorW.PrintLast Go.Proofs.YthgjjfgedcaogaaDoorW.PrintMore
attribute [local go_sem] Oper.semAt_some

def exC : Conf := ⟨5, 0, ⟨#[118]⟩, ⟨#[120]⟩, ⟨#[121]⟩, ⟨#[122]⟩⟩
def exT : Tab := ⟨[⟨#[118]⟩], [[⟨#[120]⟩]]⟩

theorem lit1 {α : Type} (d : Kd α) (W : World) (e : TypeId) {x : α} {cs : List Value} (h : d.M W 0 (fun _ => True) x cs) (hl : cs.length = d.sz) : d.R e (W.alloc (.cells cs.toArray e)) 0 (fun _ => True) (.slice (some ⟨W.heap.size, 0, none⟩) 1 1) [x] :=
  R_lits d (Nat.zero_le _) (reps_single h hl) (by simp)
theorem n0 : numberOf 0 = ⟨#[48]⟩ := by
  have h : Lib.decDigits 0 = [48] := by rw [Lib.decDigits]; rfl
  simp [numberOf, Lib.itoa, h]
def exL : List (List Str) := [hdrRec, [⟨#[99, 101, 108, 108]⟩, ⟨#[48]⟩, ⟨#[118]⟩, ⟨#[120]⟩, ⟨#[121]⟩, ⟨#[122]⟩]]
theorem exL_eq : repRecs [exC] = exL := by
  show hdrRec :: [[wordOf 5, numberOf 0, _, _, _, _]] = _
  rw [n0]; rfl
theorem exRead : readRows exL = [exC] := by decide
theorem exReadOk : readOk exL = true := by rw [readOk, exRead, exL_eq]; decide
theorem exText : textOf exC = ⟨#[40, 40, 40, 32, 120, 32, 41, 41, 41, 32, 121, 32, 47, 47, 47, 32, 122]⟩ := by decide
theorem exCell : cellOf [[textOf exC]] 0 0 = ⟨#[40, 40, 40, 32, 120, 32, 41, 41, 41, 32, 121, 32, 47, 47, 47, 32, 122]⟩ := by decide
theorem exRows : markRows exT.head exT.rows [exC] = [[textOf exC]] := by decide

set_option maxRecDepth 4000 in
set_option maxHeartbeats 1000000 in
theorem works_calls (w : World) (he : Env w) : Calls Tryd.prog 5 #[] w fun e w' => e = .returned (.bool true) ∧ Below w.heap.size w w' := by
  have HE := Aside0.mk he
  clear he
  go_enter Tryd.func5, Tryd.ntmps5
  go_wp2_with fail
  obtain ⟨w1, hw1⟩ : ∃ w1, w.alloc (.cells #[.int .i64 5, .int .i64 0, .string ⟨#[118]⟩, .string ⟨#[120]⟩, .string ⟨#[121]⟩, .string ⟨#[122]⟩] 40) = w1 := ⟨_, rfl⟩
  have X1 : Aside0 (w1.heap[w.heap.size]? = some (.cells #[.int .i64 5, .int .i64 0, .string ⟨#[118]⟩, .string ⟨#[120]⟩, .string ⟨#[121]⟩, .string ⟨#[122]⟩] 40 (0, 0))) := ⟨by rw [← hw1]; exact heap_alloc_new _ _⟩
  have B1 : Aside0 (Below w.heap.size w w1) := ⟨by rw [← hw1]; exact below1 _ _⟩
  have s1 : w1.heap.size = w.heap.size + 1 := by rw [← hw1]; simp
  rw [hw1]
  clear hw1
  have A1 : kStr.R 9 _ 0 (fun _ => True) _ [⟨#[118]⟩] := lit1 kStr w1 9 rfl rfl
  have A2 : kStr.R 9 _ 0 (fun _ => True) _ [⟨#[120]⟩] := lit1 kStr (w1.alloc (.cells #[.string ⟨#[118]⟩] 9)) 9 rfl rfl
  have A3 : kRow.R 32 _ 0 (fun _ => True) _ [[⟨#[120]⟩]] := lit1 kRow _ 32 ⟨_, rfl, A2⟩ rfl
  have A4 : kConf.R 40 _ 0 (fun _ => True) _ [exC] := lit1 kConf (((w1.alloc (.cells #[.string ⟨#[118]⟩] 9)).alloc (.cells #[.string ⟨#[120]⟩] 9)).alloc (.cells #[.slice (some ⟨(w1.alloc (.cells #[.string ⟨#[118]⟩] 9)).heap.size, 0, none⟩) 1 1] 32)) 40 (kConf_mk _ _ _ exC) rfl
  have A1' := Kd.R_alloc (Kd.R_alloc (Kd.R_alloc A1 (.cells #[.string ⟨#[120]⟩] 9)) (.cells #[.slice (some ⟨(w1.alloc (.cells #[.string ⟨#[118]⟩] 9)).heap.size, 0, none⟩) 1 1] 32)) (.cells #[.int .i64 5, .int .i64 0, .string ⟨#[118]⟩, .string ⟨#[120]⟩, .string ⟨#[121]⟩, .string ⟨#[122]⟩] 40)
  have A3' := Kd.R_alloc A3 (.cells #[.int .i64 5, .int .i64 0, .string ⟨#[118]⟩, .string ⟨#[120]⟩, .string ⟨#[121]⟩, .string ⟨#[122]⟩] 40)
  have B5 : Aside0 (Below w.heap.size w ((((w1.alloc (.cells #[.string ⟨#[118]⟩] 9)).alloc (.cells #[.string ⟨#[120]⟩] 9)).alloc (.cells #[.slice (some ⟨(w1.alloc (.cells #[.string ⟨#[118]⟩] 9)).heap.size, 0, none⟩) 1 1] 32)).alloc (.cells #[.int .i64 5, .int .i64 0, .string ⟨#[118]⟩, .string ⟨#[120]⟩, .string ⟨#[121]⟩, .string ⟨#[122]⟩] 40))) := ⟨(((B1.out.alloc (by first | omega | (simp; omega)) _).alloc (by first | omega | (simp; omega)) _).alloc (by first | omega | (simp; omega)) _).alloc (by first | omega | (simp; omega)) _⟩
  have X5 := Aside0.mk (blk_alloc (blk_alloc (blk_alloc (blk_alloc X1.out (.cells #[.string ⟨#[118]⟩] 9)) (.cells #[.string ⟨#[120]⟩] 9)) (.cells #[.slice (some ⟨(w1.alloc (.cells #[.string ⟨#[118]⟩] 9)).heap.size, 0, none⟩) 1 1] 32)) (.cells #[.int .i64 5, .int .i64 0, .string ⟨#[118]⟩, .string ⟨#[120]⟩, .string ⟨#[121]⟩, .string ⟨#[122]⟩] 40))
  simp only [World.size_alloc, s1] at A1' A3' A4 B5 X5
  clear A1 A2 A3
  refine (Mark_calls _ _ _ exT [exC] ⟨_, _, rfl, Rd.of_R A1', Rd.of_R A3'⟩ (Rd.of_R A4) ⟨by simp [exT], by simp [exT, BRow, BStr]; decide⟩ (by simp [exT]) ⟨by simp, by simp [exC]; decide⟩).mono ?_
  rintro e w6 ⟨⟨vt, rfl, hRT⟩, hb6⟩
  rw [exRows] at hRT
  have B6 := Aside0.mk (below_trans B5.out hb6)
  have X6 := Aside0.mk (blk_below X5.out hb6)
  have HT6 := Aside0.mk hRT
  obtain ⟨t0, t1, hvt, ⟨Ah, ch, rfl, -, -⟩, ⟨Ar, cr, rfl, -, -⟩⟩ := hRT
  rw [show exT.head.length = 1 from rfl, show [[textOf exC]].length = 1 from rfl] at hvt
  subst hvt
  have X7 := Aside0.mk (blk_alloc X6.out (.cells #[.slice Ah 1 ch, .slice Ar 1 cr] 34))
  have y0 := blk_cell X7.out 0
  have y1 := blk_cell X7.out 1
  have y2 := blk_cell X7.out 2
  have y3 := blk_cell X7.out 3
  have y4 := blk_cell X7.out 4
  have y5 := blk_cell X7.out 5
  simp only [List.getElem?_toArray, List.getElem?_cons_zero, List.getElem?_cons_succ] at y0 y1 y2 y3 y4 y5
  clear hb6 A1' A3' A4 B5 X5
  go_wp2_with fail
  have A8 := lit1 kConf (w6.alloc (.cells #[.slice Ah 1 ch, .slice Ar 1 cr] 34)) 40 (kConf_mk _ _ _ exC) rfl
  have B8 := Aside0.mk ((B6.out.alloc B6.out.size (.cells #[.slice Ah 1 ch, .slice Ar 1 cr] 34)).alloc (by have := B6.out.size; simp; omega) (.cells #[.int .i64 5, .int .i64 0, .string ⟨#[118]⟩, .string ⟨#[120]⟩, .string ⟨#[121]⟩, .string ⟨#[122]⟩] 40))
  have X8 := Aside0.mk (blk_alloc X7.out (.cells #[.int .i64 5, .int .i64 0, .string ⟨#[118]⟩, .string ⟨#[120]⟩, .string ⟨#[121]⟩, .string ⟨#[122]⟩] 40))
  have T8 := Aside0.mk (blk_alloc (heap_alloc_new w6 (.cells #[.slice Ah 1 ch, .slice Ar 1 cr] 34)) (.cells #[.int .i64 5, .int .i64 0, .string ⟨#[118]⟩, .string ⟨#[120]⟩, .string ⟨#[121]⟩, .string ⟨#[122]⟩] 40))
  have HT8 := Aside0.mk (HT6.out.below (((Below.refl _ w6).alloc (Nat.le_refl _) (.cells #[.slice Ah 1 ch, .slice Ar 1 cr] 34)).alloc (by simp) (.cells #[.int .i64 5, .int .i64 0, .string ⟨#[118]⟩, .string ⟨#[120]⟩, .string ⟨#[121]⟩, .string ⟨#[122]⟩] 40)))
  simp only [World.size_alloc] at A8
  clear y0 y1 y2 y3 y4 y5
  refine (Report_calls _ _ [exC] (Rd.of_R A8) (HE.out.below B8.out).pow (by intro c hc; rw [List.mem_singleton.1 hc]; decide) (by simp)).mono ?_
  rintro e w9 ⟨⟨-, vl, rfl, hRl⟩ | ⟨hno, rfl⟩, hb9⟩
  rotate_left
  · exact absurd hno (by decide)
  have B9 := Aside0.mk (below_trans B8.out hb9)
  have X9 := Aside0.mk (blk_below X8.out hb9)
  have T9 := Aside0.mk (blk_below T8.out hb9)
  have HT9 := Aside0.mk (HT8.out.below hb9)
  have HL9 := Aside0.mk (Rd.of_R hRl)
  obtain ⟨Al, cl, hvl⟩ := Kd.R_slice hRl
  subst hvl
  clear A8 hb9 hRl X8 T8 HT8
  rw [exL_eq] at HL9
  rw [show exL.length = 2 from rfl] at HL9
  rw [show (repRecs [exC]).length = 2 from rfl]
  go_wp2_with fail
  refine (Read_calls _ _ exL HL9.out (HE.out.below B9.out) (by decide) (by decide)).mono ?_
  rw [exReadOk, exRead]
  rintro e w10 ⟨⟨-, vm, rfl, hRm⟩ | ⟨hno, rfl⟩, hb10⟩
  rotate_left
  · cases hno
  have B10 := Aside0.mk (below_trans B9.out hb10)
  have X10 := Aside0.mk (blk_below X9.out hb10)
  have T10 := Aside0.mk (blk_below T9.out hb10)
  have HT10 := Aside0.mk (HT9.out.below hb10)
  have HL10 := Aside0.mk (HL9.out.below hb10)
  have HM10 := Aside0.mk (Rd.of_R hRm)
  obtain ⟨Am, cm, hvm⟩ := Kd.R_slice hRm
  rw [show [exC].length = 1 from rfl] at hvm
  subst hvm
  clear hb10 hRm X9 T9 HT9 HL9
  go_wp2_with fail
  refine (Report_calls _ _ [] (Rd.nil _ _) (HE.out.below B10.out).pow (by simp) (by simp)).mono ?_
  rintro e w11 ⟨⟨-, vn, rfl, hRn⟩ | ⟨hno, rfl⟩, hb11⟩
  rotate_left
  · exact absurd hno (by decide)
  have B11 := Aside0.mk (below_trans B10.out hb11)
  have X11 := Aside0.mk (blk_below X10.out hb11)
  have T11 := Aside0.mk (blk_below T10.out hb11)
  have HT11 := Aside0.mk (HT10.out.below hb11)
  have HL11 := Aside0.mk (HL10.out.below hb11)
  have HM11 := Aside0.mk (HM10.out.below hb11)
  obtain ⟨An, cn, hvn⟩ := Kd.R_slice hRn
  rw [show (repRecs []).length = 1 from rfl] at hvn
  subst hvn
  clear hb11 hRn X10 T10 HT10 HL10 HM10
  go_wp2_with fail
  have A12 := lit1 kConf w11 40 (kConf_mk _ _ _ zConf) rfl
  have B12 := Aside0.mk (B11.out.alloc B11.out.size (.cells #[.int .i64 0, .int .i64 0, .string ⟨#[]⟩, .string ⟨#[]⟩, .string ⟨#[]⟩, .string ⟨#[]⟩] 40))
  refine (Report_calls _ _ [zConf] (Rd.of_R A12) (HE.out.below B12.out).pow (by intro c hc; rw [List.mem_singleton.1 hc]; decide) (by simp)).mono ?_
  rintro e w13 ⟨⟨hno, -⟩ | ⟨-, rfl⟩, hb13⟩
  · exact absurd hno (by decide)
  have b13 : Below w11.heap.size w11 w13 := (below1 _ _).trans (hb13.mono (by simp))
  have B13 := Aside0.mk (below_trans B11.out b13)
  have X13 := Aside0.mk (blk_below X11.out b13)
  have T13 := Aside0.mk (blk_below T11.out b13)
  have HT13 := Aside0.mk (HT11.out.below b13)
  have HL13 := Aside0.mk (HL11.out.below b13)
  have HM13 := Aside0.mk (HM11.out.below b13)
  have y0 := blk_cell X13.out 0
  have y1 := blk_cell X13.out 1
  have y2 := blk_cell X13.out 2
  have y3 := blk_cell X13.out 3
  have y4 := blk_cell X13.out 4
  have y5 := blk_cell X13.out 5
  simp only [List.getElem?_toArray, List.getElem?_cons_zero, List.getElem?_cons_succ] at y0 y1 y2 y3 y4 y5
  clear A12 B12 hb13 b13 X11 T11 HT11 HL11 HM11
  go_wp2_with fail
  refine region_held0 (fun W => Below w13.heap.size w13 W) [] (by kernel_rfl) ?_
  refine anyHI_only (i := 0) rfl (by kernel_rfl) rfl ?_
  go_simp
  refine anyHI_only (i := 1) rfl (by kernel_rfl) rfl ?_
  go_simp
  refine ⟨trivial, rfl, (callsIn_wide.2 (Text_calls _ exC (by decide) (by decide) (by decide))).mono ?_⟩
  rintro e w14 ⟨rfl, hb14⟩
  rw [exText]
  have S14 : Below w13.heap.size w13 w14 := (Below.refl _ _).drew.trans hb14
  have t1 : ((⟨#[40, 40, 40, 32, 120, 32, 41, 41, 41, 32, 121, 32, 47, 47, 47, 32, 122]⟩ : Str).toList == (⟨#[40, 40, 40, 32, 120, 32, 41, 41, 41, 32, 121, 32, 47, 47, 47, 32, 122]⟩ : Str).toList) = true := (str_eqB rfl).1
  refine ⟨fun _ => S14, ?_⟩
  clear y0 y1 y2 y3 y4 y5
  refine anyHI_only (i := 2) rfl (by kernel_rfl) rfl ?_
  go_simp
  refine anyHI_only (i := 3) rfl (by kernel_rfl) rfl ?_
  go_simp
  refine anyHI_take (i := 4) (.agg #[.slice Ah 1 ch, .slice Ar 1 cr]) rfl (by kernel_rfl) (by kernel_rfl) (by kernel_rfl) (by kernel_rfl) (by kernel_rfl) (fun _ _ _ h => h) S14 (Or.inl ⟨rfl, fun W hS => by have q0 := blk_cell (blk_below T13.out hS) 0; have q1 := blk_cell (blk_below T13.out hS) 1; simp only [List.getElem?_toArray, List.getElem?_cons_zero, List.getElem?_cons_succ] at q0 q1; go_simp⟩) ?_
  refine anyHI_take (i := 6) (.agg #[.int .i64 5, .int .i64 0, .string ⟨#[118]⟩, .string ⟨#[120]⟩, .string ⟨#[121]⟩, .string ⟨#[122]⟩]) rfl (by kernel_rfl) (by kernel_rfl) (by kernel_rfl) (by kernel_rfl) (by kernel_rfl) (fun _ _ _ h => h) S14 (Or.inl ⟨rfl, fun W hS => by have q0 := blk_cell (blk_below X13.out hS) 0; have q1 := blk_cell (blk_below X13.out hS) 1; have q2 := blk_cell (blk_below X13.out hS) 2; have q3 := blk_cell (blk_below X13.out hS) 3; have q4 := blk_cell (blk_below X13.out hS) 4; have q5 := blk_cell (blk_below X13.out hS) 5; simp only [List.getElem?_toArray, List.getElem?_cons_zero, List.getElem?_cons_succ] at q0 q1 q2 q3 q4 q5; go_simp⟩) ?_
  refine anyHI_only (i := 5) rfl (by kernel_rfl) rfl ?_
  go_simp
  refine ⟨trivial, rfl, (callsIn_wide.2 (Cell_calls _ _ _ 0 0 (HT13.out.below S14))).mono ?_⟩
  rintro e w15 ⟨rfl, hb15⟩
  rw [exCell]
  have S15 : Below w13.heap.size w13 w15 := S14.trans (hb15.mono S14.size)
  refine ⟨S15, ?_⟩
  clear S14 hb14 hb15
  refine anyHI_only (i := 7) rfl (by kernel_rfl) rfl ?_
  go_simp
  refine ⟨trivial, rfl, (callsIn_wide.2 (Text_calls _ exC (by decide) (by decide) (by decide))).mono ?_⟩
  rintro e w16 ⟨rfl, hb16⟩
  rw [exText]
  have S16 : Below w13.heap.size w13 w16 := S15.trans (hb16.mono S15.size)
  refine ⟨by first | exact S16 | exact fun _ => S16, ?_⟩
  clear S15 hb16
  obtain ⟨_, _, el, -, hl⟩ := HL13.out.below S16
  simp only [Value.slice.injEq] at el
  obtain ⟨rfl, -, rfl⟩ := el
  obtain ⟨al, l0, lc, e1, hx1, -, hl1⟩ := C_row hl (k := 1) (by decide)
  cases e1
  obtain ⟨al0, e2, hx2⟩ := C_str hl1 (k := 0) (by decide)
  cases e2
  rw [show nthR exL 1 = [⟨#[99, 101, 108, 108]⟩, ⟨#[48]⟩, ⟨#[118]⟩, ⟨#[120]⟩, ⟨#[121]⟩, ⟨#[122]⟩] from rfl] at hx1 hx2
  rw [show nthS [⟨#[99, 101, 108, 108]⟩, ⟨#[48]⟩, ⟨#[118]⟩, ⟨#[120]⟩, ⟨#[121]⟩, ⟨#[122]⟩] 0 = ⟨#[99, 101, 108, 108]⟩ from rfl] at hx2
  simp only [List.length_cons, List.length_nil, Nat.reduceAdd] at hx1
  have hx1 : w16.cell? ⟨al.block, al.off + 1, none⟩ = _ := hx1
  have hx2 : w16.cell? al0 = some (.string ⟨#[99, 101, 108, 108]⟩) := by simpa [Addr.add] using hx2
  have t2 : ((⟨#[99, 101, 108, 108]⟩ : Str).toList == (⟨#[99, 101, 108, 108]⟩ : Str).toList) = true := (str_eqB rfl).1
  refine anyHI_only (i := 8) rfl (by kernel_rfl) rfl ?_
  go_simp
  refine anyHI_only (i := 9) rfl (by kernel_rfl) rfl ?_
  go_simp
  refine anyHI_only (i := 10) rfl (by kernel_rfl) rfl ?_
  go_simp
  refine anyHI_only (i := 11) rfl (by kernel_rfl) rfl ?_
  go_simp
  refine anyHI_only (i := 12) rfl (by kernel_rfl) rfl ?_
  go_simp
  refine anyHI_only (i := 13) rfl (by kernel_rfl) rfl ?_
  go_simp
  refine anyHI_only (i := 14) rfl (by kernel_rfl) rfl ?_
  go_simp
  refine anyHI_only (i := 15) rfl (by kernel_rfl) rfl ?_
  go_simp
  refine anyHI_only (i := 16) rfl (by kernel_rfl) rfl ?_
  go_simp
  refine anyHI_only (i := 17) rfl (by kernel_rfl) rfl ?_
  go_simp
  refine anyHI_only (i := 18) rfl (by kernel_rfl) rfl ?_
  go_simp
  refine anyHI_only (i := 19) rfl (by kernel_rfl) rfl ?_
  go_simp
  refine anyHI_only (i := 20) rfl (by kernel_rfl) rfl ?_
  go_simp
  refine anyHI_only (i := 21) rfl (by kernel_rfl) rfl ?_
  go_simp
  refine anyHI_only (i := 22) rfl (by kernel_rfl) rfl ?_
  go_simp
  refine anyHI_only (i := 23) rfl (by kernel_rfl) rfl ?_
  go_simp
  refine anyHI_only (i := 24) rfl (by kernel_rfl) rfl ?_
  go_simp
  refine anyHI_only (i := 25) rfl (by kernel_rfl) rfl ?_
  go_simp
  refine anyHI_only (i := 26) rfl (by kernel_rfl) rfl ?_
  go_simp
  refine anyHI_only (i := 27) rfl (by kernel_rfl) rfl ?_
  go_simp
  refine anyHI_only (i := 28) rfl (by kernel_rfl) rfl ?_
  go_simp
  refine anyHI_only (i := 29) rfl (by kernel_rfl) rfl ?_
  go_simp
  refine anyHI_only (i := 30) rfl (by kernel_rfl) rfl ?_
  go_simp
  refine anyHI_only (i := 31) rfl (by kernel_rfl) rfl ?_
  go_simp
  refine anyHI_only (i := 32) rfl (by kernel_rfl) rfl ?_
  go_simp
  refine anyHI_only (i := 33) rfl (by kernel_rfl) rfl ?_
  go_simp
  refine anyHI_only (i := 34) rfl (by kernel_rfl) rfl ?_
  go_simp
  refine anyHI_only (i := 35) rfl (by kernel_rfl) rfl ?_
  go_simp
  refine anyHI_only (i := 36) rfl (by kernel_rfl) rfl ?_
  go_simp
  refine anyHI_only (i := 37) rfl (by kernel_rfl) rfl ?_
  go_simp
  refine anyHI_only (i := 38) rfl (by kernel_rfl) rfl ?_
  go_simp
  refine anyHI_only (i := 39) rfl (by kernel_rfl) rfl ?_
  go_simp
  obtain ⟨_, _, em, -, hm⟩ := HM13.out.below S16
  simp only [Value.slice.injEq] at em
  obtain ⟨rfl, -, rfl⟩ := em
  obtain ⟨am, e3, m0, m1, m2, m3, m4, m5⟩ := C_Conf hm (k := 0) (by decide)
  cases e3
  have m0 : w16.cell? am = some (.int .i64 5) := by simpa [Addr.add, exC, nth] using m0
  have m1 : w16.cell? ⟨am.block, am.off + 1, none⟩ = some (.int .i64 0) := by simpa [Addr.add, exC, nth] using m1
  have m2 : w16.cell? ⟨am.block, am.off + 2, none⟩ = some (.string ⟨#[118]⟩) := by simpa [Addr.add, exC, nth] using m2
  have m3 : w16.cell? ⟨am.block, am.off + 3, none⟩ = some (.string ⟨#[120]⟩) := by simpa [Addr.add, exC, nth] using m3
  have m4 : w16.cell? ⟨am.block, am.off + 4, none⟩ = some (.string ⟨#[121]⟩) := by simpa [Addr.add, exC, nth] using m4
  have m5 : w16.cell? ⟨am.block, am.off + 5, none⟩ = some (.string ⟨#[122]⟩) := by simpa [Addr.add, exC, nth] using m5
  have S17 : Below w13.heap.size w13 w16 := S16
  refine anyHI_take (i := 43) (.agg #[.int .i64 5, .int .i64 0, .string ⟨#[118]⟩, .string ⟨#[120]⟩, .string ⟨#[121]⟩, .string ⟨#[122]⟩]) rfl (by kernel_rfl) (by kernel_rfl) (by kernel_rfl) (by kernel_rfl) (by kernel_rfl) (fun _ _ _ h => h) S17 (Or.inl ⟨rfl, fun W hS => by have q0 := blk_cell (blk_below X13.out hS) 0; have q1 := blk_cell (blk_below X13.out hS) 1; have q2 := blk_cell (blk_below X13.out hS) 2; have q3 := blk_cell (blk_below X13.out hS) 3; have q4 := blk_cell (blk_below X13.out hS) 4; have q5 := blk_cell (blk_below X13.out hS) 5; simp only [List.getElem?_toArray, List.getElem?_cons_zero, List.getElem?_cons_succ] at q0 q1 q2 q3 q4 q5; go_simp⟩) ?_
  refine anyHI_only (i := 40) rfl (by kernel_rfl) rfl ?_
  go_simp
  refine anyHI_only (i := 41) rfl (by kernel_rfl) rfl ?_
  go_simp
  refine anyHI_only (i := 42) rfl (by kernel_rfl) rfl ?_
  go_simp
  refine anyHI_only (i := 44) rfl (by kernel_rfl) rfl ?_
  go_simp
  refine anyHI_only (i := 45) rfl (by kernel_rfl) rfl ?_
  go_simp
  refine anyHI_only (i := 46) rfl (by kernel_rfl) rfl ?_
  go_simp
  refine anyHI_only (i := 47) rfl (by kernel_rfl) rfl ?_
  go_simp
  refine anyHI_only (i := 48) rfl (by kernel_rfl) rfl ?_
  go_simp
  refine anyHI_only (i := 49) rfl (by kernel_rfl) rfl ?_
  go_simp
  refine anyHI_only (i := 50) rfl (by kernel_rfl) rfl ?_
  go_simp
  refine anyHI_only (i := 51) rfl (by kernel_rfl) rfl ?_
  go_simp
  refine anyHI_only (i := 52) rfl (by kernel_rfl) rfl ?_
  go_simp
  refine anyHI_only (i := 53) rfl (by kernel_rfl) rfl ?_
  go_simp
  refine anyHI_only (i := 54) rfl (by kernel_rfl) rfl ?_
  go_simp
  refine anyHI_only (i := 55) rfl (by kernel_rfl) rfl ?_
  go_simp
  refine anyHI_only (i := 56) rfl (by kernel_rfl) rfl ?_
  go_simp
  refine anyHI_only (i := 57) rfl (by kernel_rfl) rfl ?_
  go_simp
  refine anyHI_only (i := 58) rfl (by kernel_rfl) rfl ?_
  go_simp
  refine anyHI_only (i := 59) rfl (by kernel_rfl) rfl ?_
  go_simp
  refine anyHI_only (i := 60) rfl (by kernel_rfl) rfl ?_
  go_simp
  refine anyHI_only (i := 61) rfl (by kernel_rfl) rfl ?_
  go_simp
  refine anyHI_only (i := 62) rfl (by kernel_rfl) rfl ?_
  go_simp
  refine anyHI_only (i := 63) rfl (by kernel_rfl) rfl ?_
  go_simp
  refine anyHI_done (by kernel_rfl) ?_ _
  go_wp2
  go_ret
  exact ⟨rfl, B13.out.trans (S16.mono B13.out.size)⟩
end Go.Proofs.YthgjjfgedcaogaaDoor
