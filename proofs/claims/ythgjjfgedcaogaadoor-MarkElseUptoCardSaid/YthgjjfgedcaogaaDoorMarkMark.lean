/- mark.Mark: conflicts in a table's cells. -/
import Derived.Test.YthgjjfgedcaogaaDoorMarkThere
import Derived.Test.YthgjjfgedcaogaaDoorGrid
namespace Go.Proofs.YthgjjfgedcaogaaDoor
open Go.RowKit Go.Proofs.YthgjjfgedcaogaaDoorW.PrintWords Go.Proofs.YthgjjfgedcaogaaDoorW.PrintLast Go.Proofs.YthgjjfgedcaogaaDoorW.PrintMore
attribute [local go_sem] Oper.semAt_some

def markOne (head : List Str) (rows : List (List Str)) (c : Conf) : List (List Str) :=
  if (c.kind = 5 ∨ c.kind = 4) ∧ isCell rows c.row (findS head c.col) then rows.set c.row.toNat ((nthR rows c.row.toNat).set (findS head c.col).toNat (textOf c)) else rows
def markRows (head : List Str) (rows : List (List Str)) (l : List Conf) : List (List Str) := l.foldl (markOne head) rows
theorem markRows_succ {head : List Str} {rows : List (List Str)} {l : List Conf} {k : Nat} (h : k < l.length) : markRows head rows (l.take (k + 1)) = markOne head (markRows head rows (l.take k)) (nth zConf l k) := by
  rw [take_nth zConf h, markRows, List.foldl_append]; rfl
theorem markOne_length (head : List Str) (rows : List (List Str)) (c : Conf) : (markOne head rows c).length = rows.length := by unfold markOne; split <;> simp
theorem markRows_length (head : List Str) (rows : List (List Str)) (l : List Conf) : (markRows head rows l).length = rows.length := by
  induction l generalizing rows with
  | nil => rfl
  | cons c r ih => exact (ih (markOne head rows c)).trans (markOne_length head rows c)
theorem infoTab : (Tryd.prog.info? 32).map (fun i => (i.zero, i.size, i.bytes)) = some (some (.slice none 0 0), 1, 24) := infoRow

/-- Blocks that lie as they lay. -/
def Keeps (L : List (Nat × Obj)) (W : World) : Prop := ∀ x ∈ L, W.heap[x.1]? = some x.2
theorem Keeps.below {L : List (Nat × Obj)} {W W' : World} (h : Keeps L W) (hb : Below W.heap.size W W') : Keeps L W' := fun x hx => blk_below (h x hx) hb
theorem Keeps.alloc {L : List (Nat × Obj)} {W : World} (h : Keeps L W) (o : Obj) : Keeps L (W.alloc o) := fun x hx => blk_alloc (h x hx) o
theorem Keeps.drew {L : List (Nat × Obj)} {W : World} (h : Keeps L W) : Keeps L W.drew := h
theorem Keeps.two {g h : Nat} {a b : Obj} {W : World} (h1 : W.heap[g]? = some a) (h2 : W.heap[h]? = some b) : Keeps [(g, a), (h, b)] W := by
  intro x hx
  rcases List.mem_cons.1 hx with rfl | hx
  · exact h1
  · rw [List.mem_singleton.1 hx]; exact h2
theorem Keeps.one {g : Nat} {a : Obj} {L : List (Nat × Obj)} {W : World} (h : Keeps ((g, a) :: L) W) : W.heap[g]? = some a := h (g, a) List.mem_cons_self
theorem Keeps.rest {x : Nat × Obj} {L : List (Nat × Obj)} {W : World} (h : Keeps (x :: L) W) : Keeps L W := fun y hy => h y (List.mem_cons_of_mem _ hy)
theorem wp_via {P : Program} {c : Code} {Q : Exit → Act → World → Prop} {a : Act} {w : World} (Φ : Act → Act → World → Prop) (h : c.wp P (fun e a' w' => e = .normal ∧ Φ a a' w') a w) (hk : ∀ a' w', Φ a a' w' → Q .normal a' w') : c.wp P Q a w :=
  Code.wp_mono (fun e a' w' ⟨he, hp⟩ => by subst he; exact hk a' w' hp) h
theorem anyHI_two {n : Nat} {P : Program} {ops : Array Oper} {Q : Exit → Act → World → Prop} {md : Region.Mode} {S : World → Prop} {ds : List Nat} {i j : Nat} {oi oj : Oper} {fuel : Nat} {listed : Array Bool} {a : Act} {w : World} (hi : ops[i]? = some oi) (hj : ops[j]? = some oj) (hr : Region.ready md ops listed = [i, j])
    (hw : Region.wanted oi (yielded ops a.tmps) = true) (hw' : Region.wanted oj (yielded ops a.tmps) = true)
    (h : oi.wpIn Fence.wide n P a w (fun a' w' => (i ∉ ds → S w → S w') ∧ anyHI n P md ops Q S ds fuel (listed.setIfInBounds i true) a' w') Q)
    (h' : oj.wpIn Fence.wide n P a w (fun a' w' => (j ∉ ds → S w → S w') ∧ anyHI n P md ops Q S ds fuel (listed.setIfInBounds j true) a' w') Q) : anyHI n P md ops Q S ds (fuel + 1) listed a w := by
  refine ⟨fun h0 => (by rw [hr] at h0; cases h0), fun k hk => ?_⟩
  rw [hr] at hk
  rcases List.mem_cons.1 hk with rfl | hk
  · unfold wpOpIn; simp only [hi, hw, if_true]; exact h
  · obtain rfl := List.mem_singleton.1 hk
    unfold wpOpIn; simp only [hj, hw', if_true]; exact h'

set_option maxRecDepth 4000 in
set_option maxHeartbeats 2000000 in
theorem Mark_calls (w : World) (v vl : Value) (t : Tab) (l : List Conf) (hv : RdT w v t) (hl : Rd kConf w vl l) (hB : BRows t.rows) (hH : t.head.length ≤ 1048576)
    (hC : l.length ≤ 1048576 ∧ ∀ c ∈ l, c.base.size ≤ 1048576 ∧ c.ours.size ≤ 1048576 ∧ c.them.size ≤ 1048576) :
    Calls Tryd.prog 12 #[v, vl] w fun e w' => (∃ v', e = .returned v' ∧ RdT w' v' ⟨t.head, markRows t.head t.rows l⟩) ∧ Below w.heap.size w w' := by
  obtain ⟨v0, v1, rfl, h0, A, c, rfl, hc, hr⟩ := hv
  obtain ⟨Al, cl, rfl, hcl, hrl⟩ := hl
  have H0 := Aside0.mk h0
  have HR := Aside0.mk hr
  have HL := Aside0.mk hrl
  have HB := Aside0.mk hB
  have HC := Aside0.mk hC
  have hm := Kd.C_max hr
  have hml := Kd.C_max hrl
  have hn1 : t.rows.length ≤ 1048576 := hB.1
  have hn2 : l.length ≤ 1048576 := hC.1
  clear h0 hr hrl hB hC
  go_enter Tryd.func12, Tryd.ntmps12
  go_wp2_with fail
  refine (CloneStr_calls _ _ _ (H0.out.below ((below1 w _).alloc (by simp) _)) (by omega)).mono ?_
  rintro e w1 ⟨vh, rfl, hRh, hb1⟩
  have HB1 : Aside0 (Below w.heap.size w w1) := ⟨below_trans ((below1 w _).alloc (by simp) _) hb1⟩
  have HRh := Aside0.mk hRh
  have HZ : Aside0 (w1.heap[w.heap.size + 1]? = some (.cells #[.slice none 0 0, .slice none 0 0] 34 (0, 0))) := ⟨blk_below (alloc_at _ _ (by simp)) hb1⟩
  have zb : w1.heap[w.heap.size]? = some (.cells #[v0, .slice A t.rows.length c] 34 (0, 0)) := blk_below (blk_alloc (heap_alloc_new w _) _) hb1
  clear hRh hb1
  obtain ⟨Ah, ch, hvh⟩ := Kd.R_slice HRh.out
  subst hvh
  have z1 := blk_cell (blk_alloc zb (.cells #[.slice Ah t.head.length ch, .slice none 0 0] 34)) 1
  simp only [List.getElem?_toArray, List.getElem?_cons_zero, List.getElem?_cons_succ] at z1
  clear zb
  go_wp2_with fail
  obtain ⟨g, hg⟩ : ∃ g, w1.heap.size = g := ⟨_, rfl⟩
  obtain ⟨w2, hw2⟩ : ∃ w2, w1.alloc (.cells #[.slice Ah t.head.length ch, .slice none 0 0] 34) = w2 := ⟨_, rfl⟩
  have HB2 : Aside0 (Below w.heap.size w w2) := ⟨by rw [← hw2]; exact HB1.out.alloc HB1.out.size _⟩
  have HX2 : Aside0 (w2.heap[g]? = some (.cells #[.slice Ah t.head.length ch, .slice none 0 0] 34 (0, 0))) := ⟨by rw [← hw2, ← hg]; exact heap_alloc_new _ _⟩
  have HH2 : Aside0 (kStr.R 9 w2 w.heap.size (fun k => k < g) (.slice Ah t.head.length ch) t.head) := ⟨by
    rw [← hw2, ← hg]
    obtain ⟨h0, inner, h1, h2⟩ := HRh.out
    have hw0 : kStr.R 9 w1 w.heap.size (fun _ => True) (.slice Ah t.head.length ch) t.head := ⟨h0, inner, own_weaken h1 (by simp; omega), h2⟩
    exact Kd.R_mono (Kd.R_below (Kd.R_bound hw0) (below1 _ _)) (fun k hk => hk.2.2.1)⟩
  have HZ2 : Aside0 (w2.heap[w.heap.size + 1]? = some (.cells #[.slice none 0 0, .slice none 0 0] 34 (0, 0))) := ⟨by rw [← hw2]; exact blk_alloc HZ.out _⟩
  have hwg : w.heap.size + 1 < g := by rw [← hg]; exact blk_lt HZ.out
  have HRA := Aside0.mk (Kd.C_below HR.out HB2.out)
  rw [hw2, hg]
  clear hw2 z1 HZ HB1 HRh hg
  go_loopw [19] (fun v19 W => ∃ (k : Nat) (vr : Value), v19 = .int .i64 k ∧ k ≤ t.rows.length ∧ Aside0 (W.heap[g]? = some (.cells #[.slice Ah t.head.length ch, vr] 34 (0, 0))) ∧ Aside0 (Grid W (g + 1) vr (t.rows.take k)) ∧ Aside0 (kStr.R 9 W w.heap.size (fun k => k < g) (.slice Ah t.head.length ch) t.head) ∧ Aside0 (Below w.heap.size w W) ∧ Aside0 (W.heap[w.heap.size + 1]? = some (.cells #[.slice none 0 0, .slice none 0 0] 34 (0, 0)))) (fun v19 _ => t.rows.length - (intOf v19).toNat)
  case atStart => exact ⟨0, _, rfl, Nat.zero_le _, HX2, ⟨Grid.nil _ _⟩, HH2, HB2, HZ2⟩
  case round =>
    obtain ⟨k, vr, rfl, hk, HX, HG, HH, HBW, HZW⟩ := hrel
    obtain ⟨Ar, cr, hvr⟩ := HG.out.slice
    rw [show (t.rows.take k).length = k by simp; omega] at hvr
    subst hvr
    by_cases hlt : k < t.rows.length
    · have q : (k : Int) < (t.rows.length : Int) := by omega
      obtain ⟨ad, A0, c0, e, hx, hz, hy⟩ := C_row (Kd.C_below HR.out HBW.out) hlt
      cases e
      have HY := Aside0.mk hy
      clear hy
      have HL0 : (nthR t.rows k).length * 16 ≤ 140737488355328 := by have h9 : (nthR t.rows k).length ≤ 1048576 := (HB.out.2 _ (mem_nth [] hlt)).1; omega
      have c0' := blk_cell HX.out 1
      simp only [List.getElem?_toArray, List.getElem?_cons_zero, List.getElem?_cons_succ] at c0'
      clear c0'
      go_wp2_with fail
      refine region_held0 (fun W => W.heap[g]? = some (.cells #[.slice Ah t.head.length ch, .slice Ar k cr] 34 (0, 0))) [7] (by kernel_rfl) ?_
      refine anyHI_take (i := 0) (.pointer (some ⟨g, 1, none⟩)) rfl (by kernel_rfl) (by kernel_rfl) (by kernel_rfl) (by kernel_rfl) (by kernel_rfl) (fun _ _ _ h => h) HX.out (Or.inl ⟨rfl, fun W hS => by go_simp⟩) ?_
      refine anyHI_take (i := 1) (.slice Ar k cr) rfl (by kernel_rfl) (by kernel_rfl) (by kernel_rfl) (by kernel_rfl) (by kernel_rfl) (fun _ _ _ h => h) HX.out (Or.inl ⟨rfl, fun W hS => by have z := blk_cell hS 1; simp only [List.getElem?_toArray, List.getElem?_cons_zero, List.getElem?_cons_succ] at z; go_simp⟩) ?_
      refine anyHI_take (i := 2) (.slice A0 (nthR t.rows k).length c0) rfl (by kernel_rfl) (by kernel_rfl) (by kernel_rfl) (by kernel_rfl) (by kernel_rfl) (fun _ _ _ h => h) HX.out (Or.inl ⟨rfl, fun W hS => by go_simp⟩) ?_
      refine anyHI_only (i := 3) rfl (by kernel_rfl) rfl ?_
      go_simp
      obtain ⟨vs, ho, hr5, hs5⟩ := HG.out
      have hlk : (t.rows.take k).length = k := by simp; omega
      rw [hlk] at ho
      refine ⟨trivial, rfl, (callsIn_wide.2 (CloneStr_calls wr.drew _ (nthR t.rows k) ⟨A0, c0, rfl, hz, Kd.C_below HY.out (Below.refl _ _).drew⟩ HL0)).mono ?_⟩
      rintro e w3 ⟨v3, rfl, hR3, hb3⟩
      refine ⟨fun h => blk_below h hb3, ?_⟩
      obtain ⟨A3, c3, hv3⟩ := Kd.R_slice hR3
      subst hv3
      have hb3' : Below wr.heap.size wr w3 := (Below.refl _ _).drew.trans hb3
      have HO3 := own_move ho (fun k hk => hb3'.block k (own_lt ho k hk))
      have HX3 := blk_below HX.out hb3'
      refine anyHI_only (i := 4) rfl (by kernel_rfl) rfl ?_
      go_simp
      refine ⟨by first | exact blk_alloc HX3 _ | exact fun h => blk_alloc h _, ?_⟩
      refine anyHI_append (i := 5) rfl (by kernel_rfl) rfl (g + 1) (.tmp 24) (.tmp 27) 22 32 (.slice none 0 0) 1 24 rfl Tryd.underlying22 infoRow rfl (by decide) (by omega) (.slice Ar k cr) k vs [.slice A3 (nthR t.rows k).length c3] rfl rfl rfl (by intro u hu; rw [List.mem_singleton.1 hu]; rfl) HO3 (Below.refl _ w3) (by have := blk_lt HX3; omega) (by omega) ?_
      intro v5 w5 hown5 hb5 hg5 hat5
      obtain ⟨A5, c5, hv5⟩ := own_slice hown5
      subst hv5
      have HX5 := blk_grown HX3 hg5 (own_ne HO3 HX3 (by decide))
      refine ⟨fun _ _ => HX5, ?_⟩
      have d5 := blk_cell HX5 1
      have e5 := blk_frozen HX5 1
      simp only [List.getElem?_toArray, List.getElem?_cons_zero, List.getElem?_cons_succ] at d5
      refine anyHI_only (i := 6) rfl (by kernel_rfl) rfl ?_
      go_simp
      refine anyHI_only (i := 7) rfl (by kernel_rfl) rfl ?_
      go_simp
      refine anyHI_done (by kernel_rfl) ?_ _
      have HG5 := Grid.push (by have := blk_lt HX.out; omega) (by rw [hlk]; exact ho) hr5 hs5 hR3 hb3' (by rw [hlk]; exact hown5) hg5
      rw [← take_nth ([] : List Str) hlt] at HG5
      have hown6 : ∀ b, (Value.slice Ar k cr).ownBlock = some b → g + 1 ≤ b := own_base HO3
      have HH5 := Kd.R_grown (Kd.R_below HH.out hb3') hg5 (fun k hk e => by have := hown6 k e.symm; omega)
      have HB5 : Below w.heap.size w w5 := (HBW.out.trans (hb3'.mono HBW.out.size)).trans (hb5.mono (by omega))
      have HZ5 := blk_grown (blk_below HZW.out hb3') hg5 (own_ne HO3 (blk_below HZW.out hb3') (by decide))
      clear hb3' hg5 hat5
      go_wp2
      go_roundw
      case measure => simp [intOf]; omega
      case rel =>
        exact ⟨k + 1, _, by go_num, by omega, ⟨blk_put HX5 1 _ rfl⟩, ⟨HG5.set HX5 (by decide) (by decide) 1 _⟩, ⟨Kd.R_far (p := ⟨g, 1, none⟩) HH5 (fun k hk => by simp; omega) _⟩, ⟨HB5.setCell (p := ⟨g, 1, none⟩) (by simp; omega) _⟩, ⟨blk_far (p := ⟨g, 1, none⟩) HZ5 (by simp; omega) _⟩⟩
    · have hkk : t.rows.take k = t.rows := take_all (by omega)
      rw [hkk] at HG
      have hke : k = t.rows.length := by omega
      subst hke
      clear hkk HX2 HH2 HB2 HZ2
      go_wp2_with fail
      go_loopw [33] (fun v33 W => ∃ i : Nat, v33 = .int .i64 i ∧ i ≤ l.length ∧ Aside0 (W.heap[g]? = some (.cells #[.slice Ah t.head.length ch, .slice Ar t.rows.length cr] 34 (0, 0))) ∧ Aside0 (Grid W (g + 1) (.slice Ar t.rows.length cr) (markRows t.head t.rows (l.take i))) ∧ Aside0 (kStr.R 9 W w.heap.size (fun k => k < g) (.slice Ah t.head.length ch) t.head) ∧ Aside0 (Below w.heap.size w W) ∧ Aside0 (W.heap[w.heap.size + 1]? = some (.cells #[.slice none 0 0, .slice none 0 0] 34 (0, 0)))) (fun v33 _ => l.length - (intOf v33).toNat)
      case atStart => exact ⟨0, rfl, Nat.zero_le _, HX, HG, HH, HBW, HZW⟩
      case round =>
        clear HX HG HH HBW HZW
        obtain ⟨i, rfl, hi, HX, HG, HH, HBW, HZW⟩ := hrel
        by_cases hlt2 : i < l.length
        · have q : (i : Int) < (l.length : Int) := by omega
          obtain ⟨ad, e, x0, x1, x2, x3, x4, x5⟩ := C_Conf (Kd.C_below HL.out HBW.out) hlt2
          cases e
          obtain ⟨cf, hcf⟩ : ∃ cf, nth zConf l i = cf := ⟨_, rfl⟩
          have hcm := HC.out.2 _ (mem_nth zConf hlt2)
          rw [hcf] at x0 x1 x2 x3 x4 x5 hcm
          have HCF := Aside0.mk hcf
          clear hcf
          go_wp2_with fail
          obtain ⟨h, hh⟩ : ∃ h, wr.heap.size = h := ⟨_, rfl⟩
          obtain ⟨W1, hW1⟩ : ∃ W1, wr.alloc (.cells #[.int .i64 cf.kind, .int .i64 cf.row, .string cf.col, .string cf.base, .string cf.ours, .string cf.them] 40) = W1 := ⟨_, rfl⟩
          rw [hW1, hh]
          have HB1 : Aside0 (Below h wr W1) := ⟨by rw [← hW1, ← hh]; exact below1 _ _⟩
          have HX1 : Aside0 (W1.heap[g]? = some (.cells #[.slice Ah t.head.length ch, .slice Ar t.rows.length cr] 34 (0, 0))) := ⟨by rw [← hW1]; exact blk_alloc HX.out _⟩
          have HC1 : Aside0 (W1.heap[h]? = some (.cells #[.int .i64 cf.kind, .int .i64 cf.row, .string cf.col, .string cf.base, .string cf.ours, .string cf.them] 40 (0, 0))) := ⟨by rw [← hW1, ← hh]; exact heap_alloc_new _ _⟩
          have HK1 := Aside0.mk (Keeps.two HX1.out HC1.out)
          have hgh : g < h := by rw [← hh]; exact blk_lt HX.out
          have hsh : h < W1.heap.size := by rw [← hW1, ← hh]; simp
          have HHH := Aside0.mk hh
          clear hW1 hh x0 x1 x2 x3 x4 x5
          refine wp_via (fun a a' W => ∃ p, a' = (((((((((a.put (some 37) (.agg #[.slice Ah t.head.length ch, .slice Ar t.rows.length cr])).put (some 38) (.pointer (some ⟨h, 1, none⟩))).put (some 39) (.int .i64 cf.row)).put (some 40) (.agg #[.slice Ah t.head.length ch, .slice Ar t.rows.length cr])).put (some 41) (.pointer (some ⟨h, 2, none⟩))).put (some 42) (.string cf.col)).put (some 43) (.int .i64 (findS t.head cf.col))).put (some 44) (.agg #[.slice Ah t.head.length ch, .slice Ar t.rows.length cr, .int .i64 cf.row, .int .i64 (findS t.head cf.col)])).put (some 11) (.pointer (some ⟨p, 0, none⟩))) ∧ W1.heap.size ≤ p ∧ W.heap[p]? = some (.cells #[.slice Ah t.head.length ch, .slice Ar t.rows.length cr, .int .i64 cf.row, .int .i64 (findS t.head cf.col)] 59 (0, 0)) ∧ Below W1.heap.size W1 W) ?_ ?_
          rotate_left
          · rintro a' W4 ⟨p, rfl, hp, HXp, HB4⟩
            have HB1w : Below wr.heap.size wr W1 := by rw [HHH.out]; exact HB1.out
            have hs4 : W1.heap.size ≤ W4.heap.size := HB4.size
            have HG4 := Aside0.mk ((HG.out.below HB1w).below HB4)
            have HH4 := Aside0.mk (Kd.R_below (Kd.R_below HH.out HB1w) HB4)
            have HX4 := Aside0.mk (blk_below HX1.out HB4)
            have HC4 := Aside0.mk (blk_below HC1.out HB4)
            have HBW4 : Aside0 (Below w.heap.size w W4) := ⟨(HBW.out.trans (HB1w.mono HBW.out.size)).trans (HB4.mono (by have := HBW.out.size; have := HB1w.size; omega))⟩
            have HZ4 := Aside0.mk (blk_below (blk_below HZW.out HB1w) HB4)
            have HP4 := Aside0.mk HXp
            have k0 := blk_cell HC4.out 0
            have p0 := blk_cell HP4.out 0
            have p1 := blk_cell HP4.out 1
            have p2 := blk_cell HP4.out 2
            have p3 := blk_cell HP4.out 3
            simp only [List.getElem?_toArray, List.getElem?_cons_zero, List.getElem?_cons_succ] at k0 p0 p1 p2 p3
            have HTH := Aside0.mk (there_calls W4 (.slice Ah t.head.length ch) (.slice Ar t.rows.length cr) (markRows t.head t.rows (l.take i)) cf.row (findS t.head cf.col) HG4.out.read)
            have HMS := Aside0.mk (markRows_succ (head := t.head) (rows := t.rows) hlt2)
            rw [HCF.out] at HMS
            clear HB4 HXp HB1w HX HG HH HBW HZW HB1 HX1 HC1 HK1
            have kinds : (cf.kind = 5 ∨ cf.kind = 4) ∨ (cf.kind ≠ 5 ∧ cf.kind ≠ 4) := by omega
            rcases kinds with (hk | hk) | hk
            · have hk5 : (cf.kind == 5) = true := by simpa using hk
              have HK0 := Aside0.mk hk
              clear hk
              by_cases hcell : isCell (markRows t.head t.rows (l.take i)) cf.row (findS t.head cf.col)
              · rw [decide_eq_true hcell] at HTH
                have HCE := Aside0.mk hcell
                clear hcell
                go_wp2_with (refine HTH.out.mono ?_; rintro e w5 ⟨rfl, hb5⟩)
                have HG5 := Aside0.mk (HG4.out.below hb5)
                have HX5 := Aside0.mk (blk_below HX4.out hb5)
                have HC5 := Aside0.mk (blk_below HC4.out hb5)
                have HP5 := Aside0.mk (blk_below HP4.out hb5)
                have HH5 := Aside0.mk (Kd.R_below HH4.out hb5)
                have HBW5 := Aside0.mk (below_trans HBW4.out hb5)
                have HZ5 := Aside0.mk (blk_below HZ4.out hb5)
                obtain ⟨u1, u2, u3, u4⟩ := id HCE.out
                rw [markRows_length] at u2
                have hi1 : cf.row.toNat < (markRows t.head t.rows (l.take i)).length := by rw [markRows_length]; omega
                have hj1 : (findS t.head cf.col).toNat < (nthR (markRows t.head t.rows (l.take i)) cf.row.toNat).length := by omega
                obtain ⟨ar, c5, a0, c0, hv5, hcr, hcj, -, -, -⟩ := HG5.out.at hi1 hj1
                rw [markRows_length] at hv5
                simp only [Value.slice.injEq] at hv5
                obtain ⟨rfl, -, rfl⟩ := hv5
                have n1 := blk_cell HX5.out 1
                have p2' := blk_cell HP5.out 2
                have p3' := blk_cell HP5.out 3
                have k0' := blk_cell HC5.out 0
                have k1' := blk_cell HC5.out 1
                have k2' := blk_cell HC5.out 2
                have k3' := blk_cell HC5.out 3
                have k4' := blk_cell HC5.out 4
                have k5' := blk_cell HC5.out 5
                simp only [List.getElem?_toArray, List.getElem?_cons_zero, List.getElem?_cons_succ] at n1 p2' p3' k0' k1' k2' k3' k4' k5'
                clear hb5
                have hS0 : Below w5.heap.size w5 w5.drew := (Below.refl _ _).drew
                refine region_held0 (fun W => Below w5.heap.size w5 W) [11] (by kernel_rfl) ?_
                refine anyHI_take (i := 0) (.pointer (some ⟨g, 1, none⟩)) rfl (by kernel_rfl) (by kernel_rfl) (by kernel_rfl) (by kernel_rfl) (by kernel_rfl) (fun _ _ _ h => h) hS0 (Or.inl ⟨rfl, fun W hS => by go_simp⟩) ?_
                refine anyHI_take (i := 1) (.slice (some ar) t.rows.length cr) rfl (by kernel_rfl) (by kernel_rfl) (by kernel_rfl) (by kernel_rfl) (by kernel_rfl) (fun _ _ _ h => h) hS0 (Or.inl ⟨rfl, fun W hS => by have z0 := pw_cell_below hS n1; go_simp⟩) ?_
                refine anyHI_take (i := 2) (.pointer (some ⟨p, 2, none⟩)) rfl (by kernel_rfl) (by kernel_rfl) (by kernel_rfl) (by kernel_rfl) (by kernel_rfl) (fun _ _ _ h => h) hS0 (Or.inl ⟨rfl, fun W hS => by go_simp⟩) ?_
                refine anyHI_take (i := 3) (.int .i64 cf.row) rfl (by kernel_rfl) (by kernel_rfl) (by kernel_rfl) (by kernel_rfl) (by kernel_rfl) (fun _ _ _ h => h) hS0 (Or.inl ⟨rfl, fun W hS => by have z0 := pw_cell_below hS p2'; go_simp⟩) ?_
                refine anyHI_take (i := 4) (.pointer (some (ar.add cf.row.toNat))) rfl (by kernel_rfl) (by kernel_rfl) (by kernel_rfl) (by kernel_rfl) (by kernel_rfl) (fun _ _ _ h => h) hS0 (Or.inl ⟨rfl, fun W hS => by go_simp⟩) ?_
                refine anyHI_take (i := 5) (.slice (some a0) (nthR (markRows t.head t.rows (l.take i)) cf.row.toNat).length c0) rfl (by kernel_rfl) (by kernel_rfl) (by kernel_rfl) (by kernel_rfl) (by kernel_rfl) (fun _ _ _ h => h) hS0 (Or.inl ⟨rfl, fun W hS => by have z0 := pw_cell_below hS hcr; go_simp⟩) ?_
                refine anyHI_take (i := 6) (.pointer (some ⟨p, 3, none⟩)) rfl (by kernel_rfl) (by kernel_rfl) (by kernel_rfl) (by kernel_rfl) (by kernel_rfl) (fun _ _ _ h => h) hS0 (Or.inl ⟨rfl, fun W hS => by go_simp⟩) ?_
                refine anyHI_take (i := 7) (.int .i64 (findS t.head cf.col)) rfl (by kernel_rfl) (by kernel_rfl) (by kernel_rfl) (by kernel_rfl) (by kernel_rfl) (fun _ _ _ h => h) hS0 (Or.inl ⟨rfl, fun W hS => by have z0 := pw_cell_below hS p3'; go_simp⟩) ?_
                refine anyHI_take (i := 8) (.agg #[.int .i64 cf.kind, .int .i64 cf.row, .string cf.col, .string cf.base, .string cf.ours, .string cf.them]) rfl (by kernel_rfl) (by kernel_rfl) (by kernel_rfl) (by kernel_rfl) (by kernel_rfl) (fun _ _ _ h => h) hS0 (Or.inl ⟨rfl, fun W hS => by have z0 := pw_cell_below hS k0'; have z1 := pw_cell_below hS k1'; have z2 := pw_cell_below hS k2'; have z3 := pw_cell_below hS k3'; have z4 := pw_cell_below hS k4'; have z5 := pw_cell_below hS k5'; go_simp⟩) ?_
                refine anyHI_only (i := 9) rfl (by kernel_rfl) rfl ?_
                go_simp
                refine ⟨trivial, rfl, (callsIn_wide.2 (Text_calls _ cf hcm.1 hcm.2.1 hcm.2.2)).mono ?_⟩
                rintro e w6 ⟨rfl, hb6⟩
                have hb6' : Below w5.heap.size w5 w6 := (Below.refl _ _).drew.trans hb6
                refine ⟨by first | exact fun _ => hb6' | exact hb6', ?_⟩
                have HG6 := Aside0.mk (HG5.out.below hb6')
                obtain ⟨ar', c6, a0', c0', hv6, hcr', hcj', hfj', hba, hput⟩ := HG6.out.at hi1 hj1
                rw [markRows_length] at hv6
                simp only [Value.slice.injEq, Option.some.injEq] at hv6
                obtain ⟨rfl, -, rfl⟩ := hv6
                rw [pw_cell_below hb6' hcr] at hcr'
                simp only [Option.some.injEq, Value.slice.injEq] at hcr'
                obtain ⟨rfl, -, rfl⟩ := hcr'
                have HPUT := Aside0.mk hput
                have HB6 := Aside0.mk hb6'
                clear hput hb6 hb6' hS0 hcr hcj
                refine anyHI_only (i := 10) rfl (by kernel_rfl) rfl ?_
                go_simp
                refine anyHI_only (i := 11) rfl (by kernel_rfl) rfl ?_
                go_simp
                refine anyHI_done (by kernel_rfl) ?_ _
                have HMO : markOne t.head (markRows t.head t.rows (l.take i)) cf = (markRows t.head t.rows (l.take i)).set cf.row.toNat ((nthR (markRows t.head t.rows (l.take i)) cf.row.toNat).set (findS t.head cf.col).toNat (textOf cf)) := if_pos ⟨by have := HK0.out; omega, HCE.out⟩
                have HMO' := Aside0.mk HMO
                clear HMO
                go_wp2
                go_roundw
                case measure => simp [intOf]; omega
                case rel =>
                  have hX6 := blk_below HX5.out HB6.out
                  have hZ6 := blk_below HZ5.out HB6.out
                  refine ⟨i + 1, by go_num, by omega, ⟨?_⟩, ⟨by rw [HMS.out, HMO'.out]; exact HPUT.out _⟩, ⟨Kd.R_far (Kd.R_below HH5.out HB6.out) (fun k hk => by omega) _⟩, ⟨(below_trans HBW5.out HB6.out).setCell (by omega) _⟩, ⟨?_⟩⟩
                  · exact (Below.heap_setCell _ _ _ g (by omega)).trans hX6
                  · exact (Below.heap_setCell _ _ _ (w.heap.size + 1) (by omega)).trans hZ6
              · rw [decide_eq_false hcell] at HTH
                have HMO := Aside0.mk (show markOne t.head (markRows t.head t.rows (l.take i)) cf = markRows t.head t.rows (l.take i) from if_neg (fun h => hcell h.2))
                clear hcell
                go_wp2_with (refine HTH.out.mono ?_; rintro e w5 ⟨rfl, hb5⟩)
                go_roundw
                case measure => simp [intOf]; omega
                case rel => exact ⟨i + 1, by go_num, by omega, ⟨blk_below HX4.out hb5⟩, ⟨by rw [HMS.out, HMO.out]; exact HG4.out.below hb5⟩, ⟨Kd.R_below HH4.out hb5⟩, ⟨below_trans HBW4.out hb5⟩, ⟨blk_below HZ4.out hb5⟩⟩
            · have hk5 : (cf.kind == 5) = false := by simp; omega
              have hk4 : (cf.kind == 4) = true := by simpa using hk
              have HK0 := Aside0.mk hk
              clear hk
              by_cases hcell : isCell (markRows t.head t.rows (l.take i)) cf.row (findS t.head cf.col)
              · rw [decide_eq_true hcell] at HTH
                have HCE := Aside0.mk hcell
                clear hcell
                go_wp2_with (refine HTH.out.mono ?_; rintro e w5 ⟨rfl, hb5⟩)
                have HG5 := Aside0.mk (HG4.out.below hb5)
                have HX5 := Aside0.mk (blk_below HX4.out hb5)
                have HC5 := Aside0.mk (blk_below HC4.out hb5)
                have HP5 := Aside0.mk (blk_below HP4.out hb5)
                have HH5 := Aside0.mk (Kd.R_below HH4.out hb5)
                have HBW5 := Aside0.mk (below_trans HBW4.out hb5)
                have HZ5 := Aside0.mk (blk_below HZ4.out hb5)
                obtain ⟨u1, u2, u3, u4⟩ := id HCE.out
                rw [markRows_length] at u2
                have hi1 : cf.row.toNat < (markRows t.head t.rows (l.take i)).length := by rw [markRows_length]; omega
                have hj1 : (findS t.head cf.col).toNat < (nthR (markRows t.head t.rows (l.take i)) cf.row.toNat).length := by omega
                obtain ⟨ar, c5, a0, c0, hv5, hcr, hcj, -, -, -⟩ := HG5.out.at hi1 hj1
                rw [markRows_length] at hv5
                simp only [Value.slice.injEq] at hv5
                obtain ⟨rfl, -, rfl⟩ := hv5
                have n1 := blk_cell HX5.out 1
                have p2' := blk_cell HP5.out 2
                have p3' := blk_cell HP5.out 3
                have k0' := blk_cell HC5.out 0
                have k1' := blk_cell HC5.out 1
                have k2' := blk_cell HC5.out 2
                have k3' := blk_cell HC5.out 3
                have k4' := blk_cell HC5.out 4
                have k5' := blk_cell HC5.out 5
                simp only [List.getElem?_toArray, List.getElem?_cons_zero, List.getElem?_cons_succ] at n1 p2' p3' k0' k1' k2' k3' k4' k5'
                clear hb5
                have hS0 : Below w5.heap.size w5 w5.drew := (Below.refl _ _).drew
                refine region_held0 (fun W => Below w5.heap.size w5 W) [11] (by kernel_rfl) ?_
                refine anyHI_take (i := 0) (.pointer (some ⟨g, 1, none⟩)) rfl (by kernel_rfl) (by kernel_rfl) (by kernel_rfl) (by kernel_rfl) (by kernel_rfl) (fun _ _ _ h => h) hS0 (Or.inl ⟨rfl, fun W hS => by go_simp⟩) ?_
                refine anyHI_take (i := 1) (.slice (some ar) t.rows.length cr) rfl (by kernel_rfl) (by kernel_rfl) (by kernel_rfl) (by kernel_rfl) (by kernel_rfl) (fun _ _ _ h => h) hS0 (Or.inl ⟨rfl, fun W hS => by have z0 := pw_cell_below hS n1; go_simp⟩) ?_
                refine anyHI_take (i := 2) (.pointer (some ⟨p, 2, none⟩)) rfl (by kernel_rfl) (by kernel_rfl) (by kernel_rfl) (by kernel_rfl) (by kernel_rfl) (fun _ _ _ h => h) hS0 (Or.inl ⟨rfl, fun W hS => by go_simp⟩) ?_
                refine anyHI_take (i := 3) (.int .i64 cf.row) rfl (by kernel_rfl) (by kernel_rfl) (by kernel_rfl) (by kernel_rfl) (by kernel_rfl) (fun _ _ _ h => h) hS0 (Or.inl ⟨rfl, fun W hS => by have z0 := pw_cell_below hS p2'; go_simp⟩) ?_
                refine anyHI_take (i := 4) (.pointer (some (ar.add cf.row.toNat))) rfl (by kernel_rfl) (by kernel_rfl) (by kernel_rfl) (by kernel_rfl) (by kernel_rfl) (fun _ _ _ h => h) hS0 (Or.inl ⟨rfl, fun W hS => by go_simp⟩) ?_
                refine anyHI_take (i := 5) (.slice (some a0) (nthR (markRows t.head t.rows (l.take i)) cf.row.toNat).length c0) rfl (by kernel_rfl) (by kernel_rfl) (by kernel_rfl) (by kernel_rfl) (by kernel_rfl) (fun _ _ _ h => h) hS0 (Or.inl ⟨rfl, fun W hS => by have z0 := pw_cell_below hS hcr; go_simp⟩) ?_
                refine anyHI_take (i := 6) (.pointer (some ⟨p, 3, none⟩)) rfl (by kernel_rfl) (by kernel_rfl) (by kernel_rfl) (by kernel_rfl) (by kernel_rfl) (fun _ _ _ h => h) hS0 (Or.inl ⟨rfl, fun W hS => by go_simp⟩) ?_
                refine anyHI_take (i := 7) (.int .i64 (findS t.head cf.col)) rfl (by kernel_rfl) (by kernel_rfl) (by kernel_rfl) (by kernel_rfl) (by kernel_rfl) (fun _ _ _ h => h) hS0 (Or.inl ⟨rfl, fun W hS => by have z0 := pw_cell_below hS p3'; go_simp⟩) ?_
                refine anyHI_take (i := 8) (.agg #[.int .i64 cf.kind, .int .i64 cf.row, .string cf.col, .string cf.base, .string cf.ours, .string cf.them]) rfl (by kernel_rfl) (by kernel_rfl) (by kernel_rfl) (by kernel_rfl) (by kernel_rfl) (fun _ _ _ h => h) hS0 (Or.inl ⟨rfl, fun W hS => by have z0 := pw_cell_below hS k0'; have z1 := pw_cell_below hS k1'; have z2 := pw_cell_below hS k2'; have z3 := pw_cell_below hS k3'; have z4 := pw_cell_below hS k4'; have z5 := pw_cell_below hS k5'; go_simp⟩) ?_
                refine anyHI_only (i := 9) rfl (by kernel_rfl) rfl ?_
                go_simp
                refine ⟨trivial, rfl, (callsIn_wide.2 (Text_calls _ cf hcm.1 hcm.2.1 hcm.2.2)).mono ?_⟩
                rintro e w6 ⟨rfl, hb6⟩
                have hb6' : Below w5.heap.size w5 w6 := (Below.refl _ _).drew.trans hb6
                refine ⟨by first | exact fun _ => hb6' | exact hb6', ?_⟩
                have HG6 := Aside0.mk (HG5.out.below hb6')
                obtain ⟨ar', c6, a0', c0', hv6, hcr', hcj', hfj', hba, hput⟩ := HG6.out.at hi1 hj1
                rw [markRows_length] at hv6
                simp only [Value.slice.injEq, Option.some.injEq] at hv6
                obtain ⟨rfl, -, rfl⟩ := hv6
                rw [pw_cell_below hb6' hcr] at hcr'
                simp only [Option.some.injEq, Value.slice.injEq] at hcr'
                obtain ⟨rfl, -, rfl⟩ := hcr'
                have HPUT := Aside0.mk hput
                have HB6 := Aside0.mk hb6'
                clear hput hb6 hb6' hS0 hcr hcj
                refine anyHI_only (i := 10) rfl (by kernel_rfl) rfl ?_
                go_simp
                refine anyHI_only (i := 11) rfl (by kernel_rfl) rfl ?_
                go_simp
                refine anyHI_done (by kernel_rfl) ?_ _
                have HMO : markOne t.head (markRows t.head t.rows (l.take i)) cf = (markRows t.head t.rows (l.take i)).set cf.row.toNat ((nthR (markRows t.head t.rows (l.take i)) cf.row.toNat).set (findS t.head cf.col).toNat (textOf cf)) := if_pos ⟨by have := HK0.out; omega, HCE.out⟩
                have HMO' := Aside0.mk HMO
                clear HMO
                go_wp2
                go_roundw
                case measure => simp [intOf]; omega
                case rel =>
                  have hX6 := blk_below HX5.out HB6.out
                  have hZ6 := blk_below HZ5.out HB6.out
                  refine ⟨i + 1, by go_num, by omega, ⟨?_⟩, ⟨by rw [HMS.out, HMO'.out]; exact HPUT.out _⟩, ⟨Kd.R_far (Kd.R_below HH5.out HB6.out) (fun k hk => by omega) _⟩, ⟨(below_trans HBW5.out HB6.out).setCell (by omega) _⟩, ⟨?_⟩⟩
                  · exact (Below.heap_setCell _ _ _ g (by omega)).trans hX6
                  · exact (Below.heap_setCell _ _ _ (w.heap.size + 1) (by omega)).trans hZ6
              · rw [decide_eq_false hcell] at HTH
                have HMO := Aside0.mk (show markOne t.head (markRows t.head t.rows (l.take i)) cf = markRows t.head t.rows (l.take i) from if_neg (fun h => hcell h.2))
                clear hcell
                go_wp2_with (refine HTH.out.mono ?_; rintro e w5 ⟨rfl, hb5⟩)
                go_roundw
                case measure => simp [intOf]; omega
                case rel => exact ⟨i + 1, by go_num, by omega, ⟨blk_below HX4.out hb5⟩, ⟨by rw [HMS.out, HMO.out]; exact HG4.out.below hb5⟩, ⟨Kd.R_below HH4.out hb5⟩, ⟨below_trans HBW4.out hb5⟩, ⟨blk_below HZ4.out hb5⟩⟩
            · have e1 : (cf.kind == 5) = false := by simpa using hk.1
              have e2 : (cf.kind == 4) = false := by simpa using hk.2
              have HMO : markOne t.head (markRows t.head t.rows (l.take i)) cf = markRows t.head t.rows (l.take i) := if_neg (fun h => by have := h.1; omega)
              have HMO' := Aside0.mk HMO
              clear hk HMO
              go_wp2
              go_roundw
              case measure => simp [intOf]; omega
              case rel => exact ⟨i + 1, by go_num, by omega, HX4, ⟨by rw [HMS.out, HMO'.out]; exact HG4.out⟩, HH4, HBW4, HZ4⟩
          refine region_held0 (Keeps [(g, (.cells #[.slice Ah t.head.length ch, .slice Ar t.rows.length cr] 34 (0, 0))), (h, (.cells #[.int .i64 cf.kind, .int .i64 cf.row, .string cf.col, .string cf.base, .string cf.ours, .string cf.them] 40 (0, 0)))]) [] (by kernel_rfl) ?_
          refine anyHI_take (i := 0) (.agg #[.slice Ah t.head.length ch, .slice Ar t.rows.length cr]) rfl (by kernel_rfl) (by kernel_rfl) (by kernel_rfl) (by kernel_rfl) (by kernel_rfl) (fun _ _ _ h => by cases h.1) HK1.out (Or.inl ⟨rfl, fun W hS => by have z0 := blk_cell hS.one 0; have z1 := blk_cell hS.one 1; simp only [List.getElem?_toArray, List.getElem?_cons_zero, List.getElem?_cons_succ] at z0 z1; go_simp⟩) ?_
          refine anyHI_take (i := 1) (.pointer (some ⟨h, 1, none⟩)) rfl (by kernel_rfl) (by kernel_rfl) (by kernel_rfl) (by kernel_rfl) (by kernel_rfl) (fun _ _ _ h => by cases h.1) HK1.out (Or.inl ⟨rfl, fun W hS => by go_simp⟩) ?_
          refine anyHI_take (i := 2) (.int .i64 cf.row) rfl (by kernel_rfl) (by kernel_rfl) (by kernel_rfl) (by kernel_rfl) (by kernel_rfl) (fun _ _ _ h => by cases h.1) HK1.out (Or.inl ⟨rfl, fun W hS => by have z0 := blk_cell hS.rest.one 1; simp only [List.getElem?_toArray, List.getElem?_cons_zero, List.getElem?_cons_succ] at z0; go_simp⟩) ?_
          refine anyHI_take (i := 3) (.agg #[.slice Ah t.head.length ch, .slice Ar t.rows.length cr]) rfl (by kernel_rfl) (by kernel_rfl) (by kernel_rfl) (by kernel_rfl) (by kernel_rfl) (fun _ _ _ h => by cases h.1) HK1.out (Or.inl ⟨rfl, fun W hS => by have z0 := blk_cell hS.one 0; have z1 := blk_cell hS.one 1; simp only [List.getElem?_toArray, List.getElem?_cons_zero, List.getElem?_cons_succ] at z0 z1; go_simp⟩) ?_
          refine anyHI_take (i := 4) (.pointer (some ⟨h, 2, none⟩)) rfl (by kernel_rfl) (by kernel_rfl) (by kernel_rfl) (by kernel_rfl) (by kernel_rfl) (fun _ _ _ h => by cases h.1) HK1.out (Or.inl ⟨rfl, fun W hS => by go_simp⟩) ?_
          refine anyHI_take (i := 5) (.string cf.col) rfl (by kernel_rfl) (by kernel_rfl) (by kernel_rfl) (by kernel_rfl) (by kernel_rfl) (fun _ _ _ h => by cases h.1) HK1.out (Or.inl ⟨rfl, fun W hS => by have z0 := blk_cell hS.rest.one 2; simp only [List.getElem?_toArray, List.getElem?_cons_zero, List.getElem?_cons_succ] at z0; go_simp⟩) ?_
          have HB1w : Below wr.heap.size wr W1 := by rw [HHH.out]; exact HB1.out
          have HT1 : RdT W1 (.agg #[.slice Ah t.head.length ch, .slice Ar t.rows.length cr]) ⟨t.head, markRows t.head t.rows (l.take i)⟩ := ⟨_, _, rfl, Rd.of_R (Kd.R_below HH.out HB1w), (HG.out.below HB1w).read⟩
          have HB1w' := Aside0.mk HB1w
          clear HB1w
          refine anyHI_two (i := 6) (j := 8) rfl rfl (by kernel_rfl) rfl rfl ?_ ?_
          · go_simp
            refine ⟨trivial, rfl, (callsIn_wide.2 (Find_calls _ _ _ _ (HT1.below (Below.refl _ _).drew))).mono ?_⟩
            rintro e w3 ⟨rfl, hb3⟩
            refine ⟨fun hh => hh.below hb3, ?_⟩
            have hb3' : Below W1.heap.size W1 w3 := (Below.refl _ _).drew.trans hb3
            have HB3 := Aside0.mk hb3'
            have hs3 : W1.heap.size ≤ w3.heap.size := hb3'.size
            clear hb3 hb3'
            refine anyHI_two (i := 7) (j := 8) rfl rfl (by kernel_rfl) rfl rfl ?_ ?_
            · go_simp
              refine anyHI_only (i := 8) rfl (by kernel_rfl) rfl ?_
              go_simp
              refine ⟨fun hh => hh.alloc _, ?_⟩
              refine anyHI_only (i := 9) rfl (by kernel_rfl) rfl ?_
              go_simp
              refine ⟨fun _ => (HK1.out.below HB3.out).alloc _, ?_⟩
              refine anyHI_done (by kernel_rfl) ?_ _
              exact ⟨rfl, w3.heap.size, by simp, hs3, heap_alloc_new _ _, HB3.out.alloc hs3 _⟩
            · go_simp
              refine ⟨fun hh => hh.alloc _, ?_⟩
              refine anyHI_only (i := 7) rfl (by kernel_rfl) rfl ?_
              go_simp
              refine anyHI_only (i := 9) rfl (by kernel_rfl) rfl ?_
              go_simp
              refine ⟨fun _ => (HK1.out.below HB3.out).alloc _, ?_⟩
              refine anyHI_done (by kernel_rfl) ?_ _
              exact ⟨rfl, w3.heap.size, by simp, hs3, heap_alloc_new _ _, HB3.out.alloc hs3 _⟩
          · go_simp
            refine ⟨fun hh => hh.alloc _, ?_⟩
            refine anyHI_only (i := 6) rfl (by kernel_rfl) rfl ?_
            go_simp
            refine ⟨trivial, rfl, (callsIn_wide.2 (Find_calls _ _ _ _ (HT1.below ((below1 W1 _).drew)))).mono ?_⟩
            rintro e w3 ⟨rfl, hb3⟩
            have HP3 := Aside0.mk (blk_below (w := (W1.alloc (.cells #[.slice none 0 0, .slice none 0 0, .int .i64 0, .int .i64 0] 59)).drew) (heap_alloc_new W1 _) hb3)
            have r0 := blk_cell HP3.out 0
            have r1 := blk_cell HP3.out 1
            have r2 := blk_cell HP3.out 2
            have r3 := blk_cell HP3.out 3
            have s0 := blk_frozen HP3.out 0
            have s1 := blk_frozen HP3.out 1
            have s2 := blk_frozen HP3.out 2
            have s3 := blk_frozen HP3.out 3
            simp only [List.getElem?_toArray, List.getElem?_cons_zero, List.getElem?_cons_succ] at r0 r1 r2 r3
            refine ⟨fun hh => hh.below hb3, ?_⟩
            have HB3 : Aside0 (Below W1.heap.size W1 w3) := ⟨(below1 W1 _).drew.trans (hb3.mono (by simp))⟩
            clear hb3
            refine anyHI_only (i := 7) rfl (by kernel_rfl) rfl ?_
            go_simp
            refine anyHI_only (i := 9) rfl (by kernel_rfl) rfl ?_
            go_simp
            refine ⟨fun _ => HK1.out.below (by repeat (first | exact HB3.out | refine Below.setCell ?_ (by simp) _)), ?_⟩
            refine anyHI_done (by kernel_rfl) ?_ _
            exact ⟨rfl, W1.heap.size, by simp, Nat.le_refl _, blk_put (blk_put (blk_put (blk_put HP3.out 0 _ rfl) 1 _ rfl) 2 _ rfl) 3 _ rfl, by repeat (first | exact HB3.out | refine Below.setCell ?_ (by simp) _)⟩
        · have c0' := blk_cell HX.out 0
          have c1' := blk_cell HX.out 1
          have c2' := blk_cell HZW.out 0
          have f2' := blk_frozen HZW.out 0
          have c3' := blk_cell HZW.out 1
          have f3' := blk_frozen HZW.out 1
          simp only [List.getElem?_toArray, List.getElem?_cons_zero, List.getElem?_cons_succ] at c0' c1' c2' c3'
          go_wp2_with fail
          have hgs := blk_lt HX.out
          have y1 := blk_set HZW.out 0 (.slice Ah t.head.length ch)
          have y2 := blk_set y1 1 (.slice Ar t.rows.length cr)
          have HG1 := (HG.out.set HZW.out (by decide) (by decide) 0 (.slice Ah t.head.length ch)).set y1 (by decide) (by decide) 1 (.slice Ar t.rows.length cr)
          have HH1 := Kd.R_set (Kd.R_set HH.out HZW.out (by decide) 0 (.slice Ah t.head.length ch)) y1 (by decide) 1 (.slice Ar t.rows.length cr)
          rw [take_all (by omega)] at HG1
          refine bodyPost_ret (results_single rfl (.cell (w.heap.size + 1) 34 _ (0, 0) _ rfl y2 Tryd.underlying34 rfl (by kernel_rfl) .nil)) rfl ?_
          exact ⟨⟨_, rfl, _, _, rfl, Rd.of_R HH1, HG1.read⟩, (HBW.out.setCell (p := ⟨w.heap.size + 1, 0, none⟩) (by simp) _).setCell (p := ⟨w.heap.size + 1, 1, none⟩) (by simp) _⟩
end Go.Proofs.YthgjjfgedcaogaaDoor
