/- mark.Read: records, read back as conflicts, where their report is just what was read. -/
import Derived.Test.YthgjjfgedcaogaaDoorMarkParse
namespace Go.Proofs.YthgjjfgedcaogaaDoor
open Go.RowKit Go.Shelf Go.Proofs.YthgjjfgedcaogaaDoorW.PrintWords Go.Proofs.YthgjjfgedcaogaaDoorW.PrintLast Go.Proofs.YthgjjfgedcaogaaDoorW.PrintMore
attribute [local go_sem] Oper.semAt_some

def readKindTo (s : Str) : Nat → Int
  | 0 => 0
  | k + 1 => if wordOf ((k + 1 : Nat) : Int) = s then ((k + 1 : Nat) : Int) else readKindTo s k
def readConf (r : List Str) : Conf := ⟨readKindTo (nthS r 0) 5, readNum (nthS r 1), nthS r 2, nthS r 3, nthS r 4, nthS r 5⟩
def isRec (r : List Str) : Bool := decide (r.length = 6)
def readRows (l : List (List Str)) : List Conf := (l.drop 1).map readConf
def readOk (l : List (List Str)) : Bool := l.all isRec && (repOk (readRows l) && decide (repRecs (readRows l) = l))

theorem readNum_range (s : Str) : -1 ≤ readNum s ∧ readNum s ≤ 4294967295 := by
  unfold readNum
  split
  · rename_i u h
    have := Lib.parseUintB_le h
    omega
  · omega

theorem R_below {α : Type} {d : Kd α} {e base : Nat} {ok : Nat → Prop} {W W' : World} {v : Value} {xs : List α} (h : d.R e W base ok v xs) (hb : Below W.heap.size W W') : d.R e W' base ok v xs :=
  Kd.R_mono (Kd.R_below (Kd.R_bound h) hb) (fun _ hk => hk.1)
theorem infoConf : (Tryd.prog.info? 40).map (fun i => (i.zero, i.size, i.bytes)) = some (some (.agg #[.int .i64 0, .int .i64 0, .string ⟨#[]⟩, .string ⟨#[]⟩, .string ⟨#[]⟩, .string ⟨#[]⟩]), 6, 80) := by kernel_rfl
theorem below_drewN {B : Nat} {w w1 : World} (h : Below B w w1) (m : Nat) : Below B w (w1.drewN m) := by
  induction m with
  | zero => exact h
  | succ m ih => exact ih.drew
theorem isEmpty_of_ne {s : Str} (h : s ≠ ⟨#[]⟩) : (ByteArray.toList s).isEmpty = false := by
  rw [List.isEmpty_eq_false_iff]
  exact fun e => h (str_ext (e.trans (ByteArray.toList_mk []).symm))
theorem nth_mem {α : Type} (d : α) {l : List α} {k : Nat} (h : k < l.length) : nth d l k ∈ l := by rw [nth_get d h]; exact List.getElem_mem h
theorem readRows_one {l : List (List Str)} (h : 0 < l.length) : readRows (l.take (0 + 1)) = readRows (l.take 0) := by
  rw [take_nth ([] : List Str) h]; simp [readRows]
theorem readRows_succ {l : List (List Str)} {k : Nat} (h : k < l.length) (h0 : k ≠ 0) : readRows (l.take (k + 1)) = readRows (l.take k) ++ [readConf (nthR l k)] := by
  rw [take_nth ([] : List Str) h, readRows, readRows, List.drop_append_of_le_length (by simp; omega)]
  simp
theorem recs_succ {l : List (List Str)} {k : Nat} (h : k < l.length) (ho : ∀ r ∈ l.take k, isRec r = true) (hr : isRec (nthR l k) = true) : ∀ r ∈ l.take (k + 1), isRec r = true := by
  rw [take_nth ([] : List Str) h]
  intro r hm
  rcases List.mem_append.1 hm with hm | hm
  · exact ho r hm
  · rw [List.mem_singleton.1 hm]; exact hr

set_option maxRecDepth 4000 in
set_option maxHeartbeats 1000000 in
theorem Read_calls (w : World) (v : Value) (l : List (List Str)) (hv : Rd kRow w v l) (he : Env w) (hs : ∀ r ∈ l, ∀ s ∈ r, s.size ≤ 281474976710656) (hl : l.length ≤ 1000000000) :
    Calls Tryd.prog 7 #[v] w fun e w' => ((readOk l = true ∧ ∃ v', e = .returned (.tuple #[v', .int .i64 0]) ∧ kConf.R 40 w' w.heap.size (fun _ => True) v' (readRows l)) ∨ (readOk l = false ∧ e = .returned (.tuple #[.slice none 0 0, .int .i64 13]))) ∧ Below w.heap.size w w' := by
  obtain ⟨A, c, rfl, hc, hr⟩ := hv
  have HR := Aside0.mk hr
  have HE := Aside0.mk he
  have HS := Aside0.mk hs
  have hm := Kd.C_max hr
  clear hr he hs
  go_enter Tryd.func7, Tryd.ntmps7
  go_wp2
  go_loopw [4, 15] (fun v4 v15 wr => ∃ (k : Nat) (xs : List Conf), v15 = .int .i64 k ∧ k ≤ l.length ∧ Aside0 (xs = readRows (l.take k)) ∧ Aside0 (∀ r ∈ l.take k, isRec r = true) ∧ Aside0 (kConf.R 40 wr w.heap.size (fun _ => True) v4 xs) ∧ Aside0 (Below w.heap.size w wr)) (fun _ v15 _ => l.length - (intOf v15).toNat)
  case atStart => exact ⟨0, [], rfl, Nat.zero_le _, ⟨by simp [readRows]⟩, ⟨by simp⟩, ⟨Kd.R_nil _ _ _ _ _⟩, ⟨Below.refl _ _⟩⟩
  case round =>
    obtain ⟨k, xs, rfl, hk, HX, HO, HV, HB⟩ := hrel
    obtain ⟨Ao, co, hvo⟩ := Kd.R_slice HV.out
    subst hvo
    by_cases hlt : k < l.length
    · obtain ⟨ad, A0, c0, e, hx, hz, hy⟩ := C_row (Kd.C_below HR.out HB.out) hlt
      cases e
      have q : (k : Int) < (l.length : Int) := by omega
      by_cases h6 : (nthR l k).length = 6
      · rw [h6] at hx hz
        have HY := Aside0.mk hy
        have H6 := Aside0.mk h6
        clear hy h6
        by_cases h0 : k = 0
        · subst h0
          have hx : wr.cell? ad = some (.slice A0 6 c0) := by simpa [Addr.add] using hx
          go_wp2
          go_roundw
          case measure => simp [intOf]; omega
          case rel => exact ⟨1, xs, by go_num, by omega, ⟨by rw [HX.out]; exact (readRows_one hlt).symm⟩, ⟨recs_succ hlt HO.out (decide_eq_true H6.out)⟩, HV, HB⟩
        · have hk0 : ((k : Int) == 0) = false := by simpa using h0
          obtain ⟨a0, e0, z0⟩ := C_str HY.out (k := 0) (by rw [H6.out]; omega)
          cases e0
          have hB8 : Below wr.heap.size wr wr.drew := (Below.refl _ _).drew
          go_wp2_with fail
          refine region_held0 (fun W => Below wr.heap.size wr W) [] (by kernel_rfl) ?_
          refine anyHI_take (i := 0) (.slice (some a0) 6 c0) rfl (by kernel_rfl) (by kernel_rfl) (by kernel_rfl) (by kernel_rfl) (by kernel_rfl) (fun _ _ _ h => h) hB8 (Or.inl ⟨rfl, fun W hS => by go_simp⟩) ?_
          refine anyHI_take (i := 1) (.pointer (some (a0.add 2))) rfl (by kernel_rfl) (by kernel_rfl) (by kernel_rfl) (by kernel_rfl) (by kernel_rfl) (fun _ _ _ h => h) hB8 (Or.inl ⟨rfl, fun W hS => by go_simp⟩) ?_
          refine anyHI_take (i := 2) (.string (nthS (nthR l k) 2)) rfl (by kernel_rfl) (by kernel_rfl) (by kernel_rfl) (by kernel_rfl) (by kernel_rfl) (fun _ _ _ h => h) hB8 (Or.inl ⟨rfl, fun W hS => by obtain ⟨_, e1, z⟩ := C_str (Kd.C_below HY.out hS) (k := 2) (by rw [H6.out]; omega); cases e1; have z : W.cell? ⟨a0.block, a0.off + 2, none⟩ = _ := z; go_simp⟩) ?_
          refine anyHI_take (i := 3) (.slice (some a0) 6 c0) rfl (by kernel_rfl) (by kernel_rfl) (by kernel_rfl) (by kernel_rfl) (by kernel_rfl) (fun _ _ _ h => h) hB8 (Or.inl ⟨rfl, fun W hS => by go_simp⟩) ?_
          refine anyHI_take (i := 4) (.pointer (some (a0.add 3))) rfl (by kernel_rfl) (by kernel_rfl) (by kernel_rfl) (by kernel_rfl) (by kernel_rfl) (fun _ _ _ h => h) hB8 (Or.inl ⟨rfl, fun W hS => by go_simp⟩) ?_
          refine anyHI_take (i := 5) (.string (nthS (nthR l k) 3)) rfl (by kernel_rfl) (by kernel_rfl) (by kernel_rfl) (by kernel_rfl) (by kernel_rfl) (fun _ _ _ h => h) hB8 (Or.inl ⟨rfl, fun W hS => by obtain ⟨_, e1, z⟩ := C_str (Kd.C_below HY.out hS) (k := 3) (by rw [H6.out]; omega); cases e1; have z : W.cell? ⟨a0.block, a0.off + 3, none⟩ = _ := z; go_simp⟩) ?_
          refine anyHI_take (i := 6) (.slice (some a0) 6 c0) rfl (by kernel_rfl) (by kernel_rfl) (by kernel_rfl) (by kernel_rfl) (by kernel_rfl) (fun _ _ _ h => h) hB8 (Or.inl ⟨rfl, fun W hS => by go_simp⟩) ?_
          refine anyHI_take (i := 7) (.pointer (some (a0.add 4))) rfl (by kernel_rfl) (by kernel_rfl) (by kernel_rfl) (by kernel_rfl) (by kernel_rfl) (fun _ _ _ h => h) hB8 (Or.inl ⟨rfl, fun W hS => by go_simp⟩) ?_
          refine anyHI_take (i := 8) (.string (nthS (nthR l k) 4)) rfl (by kernel_rfl) (by kernel_rfl) (by kernel_rfl) (by kernel_rfl) (by kernel_rfl) (fun _ _ _ h => h) hB8 (Or.inl ⟨rfl, fun W hS => by obtain ⟨_, e1, z⟩ := C_str (Kd.C_below HY.out hS) (k := 4) (by rw [H6.out]; omega); cases e1; have z : W.cell? ⟨a0.block, a0.off + 4, none⟩ = _ := z; go_simp⟩) ?_
          refine anyHI_take (i := 9) (.slice (some a0) 6 c0) rfl (by kernel_rfl) (by kernel_rfl) (by kernel_rfl) (by kernel_rfl) (by kernel_rfl) (fun _ _ _ h => h) hB8 (Or.inl ⟨rfl, fun W hS => by go_simp⟩) ?_
          refine anyHI_take (i := 10) (.pointer (some (a0.add 5))) rfl (by kernel_rfl) (by kernel_rfl) (by kernel_rfl) (by kernel_rfl) (by kernel_rfl) (fun _ _ _ h => h) hB8 (Or.inl ⟨rfl, fun W hS => by go_simp⟩) ?_
          refine anyHI_take (i := 11) (.string (nthS (nthR l k) 5)) rfl (by kernel_rfl) (by kernel_rfl) (by kernel_rfl) (by kernel_rfl) (by kernel_rfl) (fun _ _ _ h => h) hB8 (Or.inl ⟨rfl, fun W hS => by obtain ⟨_, e1, z⟩ := C_str (Kd.C_below HY.out hS) (k := 5) (by rw [H6.out]; omega); cases e1; have z : W.cell? ⟨a0.block, a0.off + 5, none⟩ = _ := z; go_simp⟩) ?_
          refine anyHI_take (i := 12) (.agg #[.int .i64 0, .int .i64 (-1), .string (nthS (nthR l k) 2), .string (nthS (nthR l k) 3), .string (nthS (nthR l k) 4), .string (nthS (nthR l k) 5)]) rfl (by kernel_rfl) (by kernel_rfl) (by kernel_rfl) (by kernel_rfl) (by kernel_rfl) (fun _ _ _ h => h) hB8 (Or.inl ⟨rfl, fun W hS => by go_simp⟩) ?_
          refine anyHI_only (i := 13) rfl (by kernel_rfl) rfl ?_
          go_simp
          refine ⟨by first | exact ((Below.refl _ _).alloc (Nat.le_refl _) _).drew | exact fun _ => ((Below.refl _ _).alloc (Nat.le_refl _) _).drew, ?_⟩
          refine anyHI_only (i := 14) rfl (by kernel_rfl) rfl ?_
          go_simp
          refine ⟨by first | exact ((Below.refl _ _).alloc (Nat.le_refl _) _).drew | exact fun _ => ((Below.refl _ _).alloc (Nat.le_refl _) _).drew, ?_⟩
          refine anyHI_done (by kernel_rfl) ?_ _
          clear hB8 z0 hx
          obtain ⟨w1, hw1⟩ : ∃ w1, (wr.alloc (.cells #[.int .i64 0, .int .i64 (-1), .string (nthS (nthR l k) 2), .string (nthS (nthR l k) 3), .string (nthS (nthR l k) 4), .string (nthS (nthR l k) 5)] 40)).drew = w1 := ⟨_, rfl⟩
          have HB1 : Aside0 (Below wr.heap.size wr w1) := ⟨by rw [← hw1]; exact ((Below.refl _ _).alloc (Nat.le_refl _) _).drew⟩
          have HX1 : Aside0 (w1.heap[wr.heap.size]? = some (.cells #[.int .i64 0, .int .i64 (-1), .string (nthS (nthR l k) 2), .string (nthS (nthR l k) 3), .string (nthS (nthR l k) 4), .string (nthS (nthR l k) 5)] 40 (0, 0))) := ⟨by rw [← hw1]; exact heap_alloc_new _ _⟩
          rw [hw1]
          clear hw1
          have HY1 := Aside0.mk (Kd.C_below HY.out HB1.out)
          obtain ⟨_, e1, z1⟩ := C_str HY1.out (k := 1) (by rw [H6.out]; omega)
          cases e1
          have z1 : w1.cell? ⟨a0.block, a0.off + 1, none⟩ = some (.string (nthS (nthR l k) 1)) := z1
          have HPC := Aside0.mk (Parse_calls (nthS (nthR l k) 1) (HS.out _ (nth_mem [] hlt) _ (nth_mem _ (by rw [H6.out]; omega))) w1 (HE.out.below (below_trans HB.out HB1.out)))
          go_wp2_with fail
          refine HPC.out.mono ?_
          rintro e w2 ⟨hcase, hb2⟩
          have HB2 := Aside0.mk (below_trans HB1.out hb2)
          have HX2 := Aside0.mk (blk_below HX1.out hb2)
          have f2 := blk_frozen HX2.out 1
          have y2 := blk_cell HX2.out 1
          simp only [List.getElem?_toArray, List.getElem?_cons_zero, List.getElem?_cons_succ] at y2
          clear hb2 z1
          have hxl : (xs.length + 1) * 80 ≤ 140737488355328 := by rw [HX.out]; simp [readRows]; omega
          rcases hcase with ⟨u, hu, hul, rfl⟩ | ⟨hn, u, tt, p, rfl⟩
          · go_wp2
            obtain ⟨g, hg⟩ : ∃ g, wr.heap.size = g := ⟨_, rfl⟩
            obtain ⟨w3, hw3⟩ : ∃ w3, w2.setCell ⟨wr.heap.size, 1, none⟩ (.int .i64 (u : Int)) = w3 := ⟨_, rfl⟩
            have HX3 : Aside0 (w3.heap[g]? = some (.cells #[.int .i64 (readKindTo (nthS (nthR l k) 0) 0), .int .i64 (readNum (nthS (nthR l k) 1)), .string (nthS (nthR l k) 2), .string (nthS (nthR l k) 3), .string (nthS (nthR l k) 4), .string (nthS (nthR l k) 5)] 40 (0, 0))) := ⟨by rw [hu, ← hw3, ← hg]; exact blk_set HX2.out 1 _⟩
            have HB3 : Aside0 (Below g wr w3) := ⟨by rw [← hw3, ← hg]; exact HB2.out.setCell (p := ⟨wr.heap.size, 1, none⟩) (Nat.le_refl _) _⟩
            rw [hw3, hg]
            clear hw3 f2 y2 hu hul
            clear HX1 HX2 HB1 HB2
            go_loopw [10] (fun v10 W => ∃ j : Nat, v10 = .int .i64 ((j : Nat) : Int) ∧ 1 ≤ j ∧ j ≤ 6 ∧ Aside0 (W.heap[g]? = some (.cells #[.int .i64 (readKindTo (nthS (nthR l k) 0) (j - 1)), .int .i64 (readNum (nthS (nthR l k) 1)), .string (nthS (nthR l k) 2), .string (nthS (nthR l k) 3), .string (nthS (nthR l k) 4), .string (nthS (nthR l k) 5)] 40 (0, 0))) ∧ Aside0 (Below g wr W)) (fun v10 _ => 6 - (intOf v10).toNat)
            case atStart => exact ⟨1, rfl, Nat.le_refl _, by omega, HX3, HB3⟩
            case round =>
              obtain ⟨j, rfl, hj1, hj6, HXj, HBj⟩ := hrel
              clear HX3 HB3
              have HW0 := Aside0.mk (word_calls (j : Int))
              by_cases h6 : j = 6
              · subst h6
                have hw6 : wordOf ((6 : Nat) : Int) = ⟨#[]⟩ := by decide
                rw [hw6] at HW0
                go_wp2_with fail
                refine (HW0.out _).mono ?_
                rintro e w4 ⟨rfl, hb4⟩
                have HX4 := Aside0.mk (blk_below HXj.out hb4)
                have HB4 := Aside0.mk (HBj.out.trans (hb4.mono (by rw [← hg]; exact HBj.out.size)))
                clear hb4
                have q0 := blk_cell HX4.out 0
                have q1 := blk_cell HX4.out 1
                have q2 := blk_cell HX4.out 2
                have q3 := blk_cell HX4.out 3
                have q4 := blk_cell HX4.out 4
                have q5 := blk_cell HX4.out 5
                simp only [List.getElem?_toArray, List.getElem?_cons_zero, List.getElem?_cons_succ] at q0 q1 q2 q3 q4 q5
                have HV4 := Aside0.mk (R_below HV.out (by rw [hg]; exact HB4.out))
                have HB4' : Aside0 (Below w.heap.size w w4) := ⟨HB.out.trans (HB4.out.mono (by have := HB.out.size; omega))⟩
                go_wp2_with (
                  at_builtin
                  go_loud (refine Kd.R_append kConf (w0 := w4) w.heap.size rfl (.tmp 63) (.tmp 65) 25 40 (.agg #[.int .i64 0, .int .i64 0, .string ⟨#[]⟩, .string ⟨#[]⟩, .string ⟨#[]⟩, .string ⟨#[]⟩]) 80 rfl Tryd.underlying25 infoConf rfl (by decide) (by omega) (.slice Ao xs.length co) xs (readConf (nthR l k)) [.int .i64 (readKindTo (nthS (nthR l k) 0) 5), .int .i64 (readNum (nthS (nthR l k) 1)), .string (nthS (nthR l k) 2), .string (nthS (nthR l k) 3), .string (nthS (nthR l k) 4), .string (nthS (nthR l k) 5)] (fun _ => True) (fun _ => False) rfl rfl (kConf_mk _ _ _ (readConf (nthR l k))) (fun _ h => h.elim) (fun _ _ => trivial) HV4.out (Below.refl _ _) HB4'.out.size hxl ?_)
                  intro v1 w5 hR5 hB5 hg5 hat5)
                go_roundw
                case measure => simp [intOf]; omega
                case rel => exact ⟨k + 1, _, by go_num, by omega, ⟨by rw [HX.out]; exact (readRows_succ hlt h0).symm⟩, ⟨recs_succ hlt HO.out (decide_eq_true H6.out)⟩, ⟨hR5⟩, ⟨HB4'.out.trans hB5⟩⟩
              · have hj5 : j < 6 := by omega
                have hne : (ByteArray.toList (wordOf (j : Int))).isEmpty = false := by
                  rcases (by omega : j = 1 ∨ j = 2 ∨ j = 3 ∨ j = 4 ∨ j = 5) with rfl | rfl | rfl | rfl | rfl <;> exact isEmpty_of_ne (by decide)
                go_wp2_with fail
                refine (HW0.out _).mono ?_
                rintro e w4 ⟨rfl, hb4⟩
                have HX4 := Aside0.mk (blk_below HXj.out hb4)
                have HB4 := Aside0.mk (HBj.out.trans (hb4.mono (by rw [← hg]; exact HBj.out.size)))
                clear hb4
                go_wp2_with fail
                have hB8 : Below w4.heap.size w4 w4.drew := (Below.refl _ _).drew
                refine region_held0 (fun W => Below w4.heap.size w4 W) [] (by kernel_rfl) ?_
                refine anyHI_take (i := 0) (.int .i64 (j : Int)) rfl (by kernel_rfl) (by kernel_rfl) (by kernel_rfl) (by kernel_rfl) (by kernel_rfl) (fun _ _ _ h => h) hB8 (Or.inl ⟨rfl, fun W hS => by go_simp⟩) ?_
                refine anyHI_take (i := 2) (.slice (some a0) 6 c0) rfl (by kernel_rfl) (by kernel_rfl) (by kernel_rfl) (by kernel_rfl) (by kernel_rfl) (fun _ _ _ h => h) hB8 (Or.inl ⟨rfl, fun W hS => by go_simp⟩) ?_
                refine anyHI_take (i := 3) (.pointer (some a0)) rfl (by kernel_rfl) (by kernel_rfl) (by kernel_rfl) (by kernel_rfl) (by kernel_rfl) (fun _ _ _ h => h) hB8 (Or.inl ⟨rfl, fun W hS => by go_simp⟩) ?_
                refine anyHI_take (i := 4) (.string (nthS (nthR l k) 0)) rfl (by kernel_rfl) (by kernel_rfl) (by kernel_rfl) (by kernel_rfl) (by kernel_rfl) (fun _ _ _ h => h) hB8 (Or.inl ⟨rfl, fun W hS => by obtain ⟨_, e1, z⟩ := C_str (Kd.C_below (Kd.C_below HY.out (by rw [hg]; exact HB4.out)) hS) (k := 0) (by rw [H6.out]; omega); cases e1; have z : W.cell? a0 = _ := z; go_simp⟩) ?_
                refine anyHI_only (i := 1) rfl (by kernel_rfl) rfl ?_
                go_simp
                refine ⟨trivial, rfl, (callsIn_wide.2 (HW0.out _)).mono ?_⟩
                rintro e w5 ⟨rfl, hb5⟩
                refine ⟨by first | exact (Below.refl _ _).drew.trans hb5 | exact fun h => h.trans hb5, ?_⟩
                have HX5 := Aside0.mk (blk_below (blk_drew HX4.out) hb5)
                have HB5 := Aside0.mk (HB4.out.drew.trans (hb5.mono (by rw [← hg]; exact HB4.out.size)))
                clear hb5 hB8
                have f5 := blk_frozen HX5.out 0
                have y5 := blk_cell HX5.out 0
                simp only [List.getElem?_toArray, List.getElem?_cons_zero] at y5
                by_cases he : wordOf (j : Int) = nthS (nthR l k) 0
                · obtain ⟨e1, e2⟩ := str_eqB he
                  refine anyHI_only (i := 5) rfl (by kernel_rfl) rfl ?_
                  go_simp
                  refine anyHI_done (by kernel_rfl) ?_ _
                  go_wp2
                  go_roundw
                  case measure => simp [intOf]; omega
                  case rel =>
                    refine ⟨j + 1, by go_num, by omega, by omega, ⟨blk_put HX5.out 0 _ ?_⟩, ⟨HB5.out.setCell (p := ⟨g, 0, none⟩) (Nat.le_refl _) _⟩⟩
                    rw [show j + 1 - 1 = (j - 1) + 1 by omega, readKindTo, if_pos (by rw [show (((j - 1) + 1 : Nat) : Int) = (j : Int) by omega]; exact he)]
                    rw [show (((j - 1) + 1 : Nat) : Int) = (j : Int) by omega]
                    rfl
                · obtain ⟨e1, e2⟩ := str_neB he
                  refine anyHI_only (i := 5) rfl (by kernel_rfl) rfl ?_
                  go_simp
                  refine anyHI_done (by kernel_rfl) ?_ _
                  go_wp2
                  go_roundw
                  case measure => simp [intOf]; omega
                  case rel =>
                    refine ⟨j + 1, by go_num, by omega, by omega, ⟨?_⟩, HB5⟩
                    rw [show j + 1 - 1 = (j - 1) + 1 by omega, readKindTo, if_neg (by rw [show (((j - 1) + 1 : Nat) : Int) = (j : Int) by omega]; exact he)]
                    exact HX5.out
          · go_wp2
            obtain ⟨g, hg⟩ : ∃ g, wr.heap.size = g := ⟨_, rfl⟩
            have HX3 : Aside0 (w2.heap[g]? = some (.cells #[.int .i64 (readKindTo (nthS (nthR l k) 0) 0), .int .i64 (readNum (nthS (nthR l k) 1)), .string (nthS (nthR l k) 2), .string (nthS (nthR l k) 3), .string (nthS (nthR l k) 4), .string (nthS (nthR l k) 5)] 40 (0, 0))) := ⟨by rw [hn, ← hg]; exact HX2.out⟩
            have HB3 : Aside0 (Below g wr w2) := ⟨by rw [← hg]; exact HB2.out⟩
            rw [hg]
            clear f2 y2 hn
            clear HX1 HX2 HB1 HB2
            go_loopw [10] (fun v10 W => ∃ j : Nat, v10 = .int .i64 ((j : Nat) : Int) ∧ 1 ≤ j ∧ j ≤ 6 ∧ Aside0 (W.heap[g]? = some (.cells #[.int .i64 (readKindTo (nthS (nthR l k) 0) (j - 1)), .int .i64 (readNum (nthS (nthR l k) 1)), .string (nthS (nthR l k) 2), .string (nthS (nthR l k) 3), .string (nthS (nthR l k) 4), .string (nthS (nthR l k) 5)] 40 (0, 0))) ∧ Aside0 (Below g wr W)) (fun v10 _ => 6 - (intOf v10).toNat)
            case atStart => exact ⟨1, rfl, Nat.le_refl _, by omega, HX3, HB3⟩
            case round =>
              obtain ⟨j, rfl, hj1, hj6, HXj, HBj⟩ := hrel
              clear HX3 HB3
              have HW0 := Aside0.mk (word_calls (j : Int))
              by_cases h6 : j = 6
              · subst h6
                have hw6 : wordOf ((6 : Nat) : Int) = ⟨#[]⟩ := by decide
                rw [hw6] at HW0
                go_wp2_with fail
                refine (HW0.out _).mono ?_
                rintro e w4 ⟨rfl, hb4⟩
                have HX4 := Aside0.mk (blk_below HXj.out hb4)
                have HB4 := Aside0.mk (HBj.out.trans (hb4.mono (by rw [← hg]; exact HBj.out.size)))
                clear hb4
                have q0 := blk_cell HX4.out 0
                have q1 := blk_cell HX4.out 1
                have q2 := blk_cell HX4.out 2
                have q3 := blk_cell HX4.out 3
                have q4 := blk_cell HX4.out 4
                have q5 := blk_cell HX4.out 5
                simp only [List.getElem?_toArray, List.getElem?_cons_zero, List.getElem?_cons_succ] at q0 q1 q2 q3 q4 q5
                have HV4 := Aside0.mk (R_below HV.out (by rw [hg]; exact HB4.out))
                have HB4' : Aside0 (Below w.heap.size w w4) := ⟨HB.out.trans (HB4.out.mono (by have := HB.out.size; omega))⟩
                go_wp2_with (
                  at_builtin
                  go_loud (refine Kd.R_append kConf (w0 := w4) w.heap.size rfl (.tmp 63) (.tmp 65) 25 40 (.agg #[.int .i64 0, .int .i64 0, .string ⟨#[]⟩, .string ⟨#[]⟩, .string ⟨#[]⟩, .string ⟨#[]⟩]) 80 rfl Tryd.underlying25 infoConf rfl (by decide) (by omega) (.slice Ao xs.length co) xs (readConf (nthR l k)) [.int .i64 (readKindTo (nthS (nthR l k) 0) 5), .int .i64 (readNum (nthS (nthR l k) 1)), .string (nthS (nthR l k) 2), .string (nthS (nthR l k) 3), .string (nthS (nthR l k) 4), .string (nthS (nthR l k) 5)] (fun _ => True) (fun _ => False) rfl rfl (kConf_mk _ _ _ (readConf (nthR l k))) (fun _ h => h.elim) (fun _ _ => trivial) HV4.out (Below.refl _ _) HB4'.out.size hxl ?_)
                  intro v1 w5 hR5 hB5 hg5 hat5)
                go_roundw
                case measure => simp [intOf]; omega
                case rel => exact ⟨k + 1, _, by go_num, by omega, ⟨by rw [HX.out]; exact (readRows_succ hlt h0).symm⟩, ⟨recs_succ hlt HO.out (decide_eq_true H6.out)⟩, ⟨hR5⟩, ⟨HB4'.out.trans hB5⟩⟩
              · have hj5 : j < 6 := by omega
                have hne : (ByteArray.toList (wordOf (j : Int))).isEmpty = false := by
                  rcases (by omega : j = 1 ∨ j = 2 ∨ j = 3 ∨ j = 4 ∨ j = 5) with rfl | rfl | rfl | rfl | rfl <;> exact isEmpty_of_ne (by decide)
                go_wp2_with fail
                refine (HW0.out _).mono ?_
                rintro e w4 ⟨rfl, hb4⟩
                have HX4 := Aside0.mk (blk_below HXj.out hb4)
                have HB4 := Aside0.mk (HBj.out.trans (hb4.mono (by rw [← hg]; exact HBj.out.size)))
                clear hb4
                go_wp2_with fail
                have hB8 : Below w4.heap.size w4 w4.drew := (Below.refl _ _).drew
                refine region_held0 (fun W => Below w4.heap.size w4 W) [] (by kernel_rfl) ?_
                refine anyHI_take (i := 0) (.int .i64 (j : Int)) rfl (by kernel_rfl) (by kernel_rfl) (by kernel_rfl) (by kernel_rfl) (by kernel_rfl) (fun _ _ _ h => h) hB8 (Or.inl ⟨rfl, fun W hS => by go_simp⟩) ?_
                refine anyHI_take (i := 2) (.slice (some a0) 6 c0) rfl (by kernel_rfl) (by kernel_rfl) (by kernel_rfl) (by kernel_rfl) (by kernel_rfl) (fun _ _ _ h => h) hB8 (Or.inl ⟨rfl, fun W hS => by go_simp⟩) ?_
                refine anyHI_take (i := 3) (.pointer (some a0)) rfl (by kernel_rfl) (by kernel_rfl) (by kernel_rfl) (by kernel_rfl) (by kernel_rfl) (fun _ _ _ h => h) hB8 (Or.inl ⟨rfl, fun W hS => by go_simp⟩) ?_
                refine anyHI_take (i := 4) (.string (nthS (nthR l k) 0)) rfl (by kernel_rfl) (by kernel_rfl) (by kernel_rfl) (by kernel_rfl) (by kernel_rfl) (fun _ _ _ h => h) hB8 (Or.inl ⟨rfl, fun W hS => by obtain ⟨_, e1, z⟩ := C_str (Kd.C_below (Kd.C_below HY.out (by rw [hg]; exact HB4.out)) hS) (k := 0) (by rw [H6.out]; omega); cases e1; have z : W.cell? a0 = _ := z; go_simp⟩) ?_
                refine anyHI_only (i := 1) rfl (by kernel_rfl) rfl ?_
                go_simp
                refine ⟨trivial, rfl, (callsIn_wide.2 (HW0.out _)).mono ?_⟩
                rintro e w5 ⟨rfl, hb5⟩
                refine ⟨by first | exact (Below.refl _ _).drew.trans hb5 | exact fun h => h.trans hb5, ?_⟩
                have HX5 := Aside0.mk (blk_below (blk_drew HX4.out) hb5)
                have HB5 := Aside0.mk (HB4.out.drew.trans (hb5.mono (by rw [← hg]; exact HB4.out.size)))
                clear hb5 hB8
                have f5 := blk_frozen HX5.out 0
                have y5 := blk_cell HX5.out 0
                simp only [List.getElem?_toArray, List.getElem?_cons_zero] at y5
                by_cases he : wordOf (j : Int) = nthS (nthR l k) 0
                · obtain ⟨e1, e2⟩ := str_eqB he
                  refine anyHI_only (i := 5) rfl (by kernel_rfl) rfl ?_
                  go_simp
                  refine anyHI_done (by kernel_rfl) ?_ _
                  go_wp2
                  go_roundw
                  case measure => simp [intOf]; omega
                  case rel =>
                    refine ⟨j + 1, by go_num, by omega, by omega, ⟨blk_put HX5.out 0 _ ?_⟩, ⟨HB5.out.setCell (p := ⟨g, 0, none⟩) (Nat.le_refl _) _⟩⟩
                    rw [show j + 1 - 1 = (j - 1) + 1 by omega, readKindTo, if_pos (by rw [show (((j - 1) + 1 : Nat) : Int) = (j : Int) by omega]; exact he)]
                    rw [show (((j - 1) + 1 : Nat) : Int) = (j : Int) by omega]
                    rfl
                · obtain ⟨e1, e2⟩ := str_neB he
                  refine anyHI_only (i := 5) rfl (by kernel_rfl) rfl ?_
                  go_simp
                  refine anyHI_done (by kernel_rfl) ?_ _
                  go_wp2
                  go_roundw
                  case measure => simp [intOf]; omega
                  case rel =>
                    refine ⟨j + 1, by go_num, by omega, by omega, ⟨?_⟩, HB5⟩
                    rw [show j + 1 - 1 = (j - 1) + 1 by omega, readKindTo, if_neg (by rw [show (((j - 1) + 1 : Nat) : Int) = (j : Int) by omega]; exact he)]
                    exact HX5.out
      · have hb : (((nthR l k).length : Int) != 6) = true := by simpa using (by omega : ((nthR l k).length : Int) ≠ 6)
        have H6 := Aside0.mk h6
        clear h6
        go_wp2
        go_ret2
        refine ⟨.inr ⟨?_, rfl⟩, HB.out⟩
        have : l.all isRec = false := List.all_eq_false.2 ⟨nthR l k, nth_mem [] hlt, by simpa [isRec] using H6.out⟩
        simp [readOk, this]
    · have hke : l.take k = l := take_all (by omega)
      rw [hke] at HX HO
      have hxr : ∀ c ∈ xs, -9223372036854775808 ≤ c.row ∧ c.row ≤ 9223372036854775807 := by
        intro c hc
        rw [HX.out] at hc
        obtain ⟨r, _, rfl⟩ := List.mem_map.1 hc
        have := readNum_range (nthS r 1)
        exact ⟨by show _ ≤ readNum (nthS r 1); omega, by show readNum (nthS r 1) ≤ _; omega⟩
      have HQ := Aside0.mk (Report_calls wr _ xs (Rd.of_R HV.out) (HE.out.below HB.out).pow hxr (by rw [HX.out]; simp [readRows]; omega))
      have hall : l.all isRec = true := by simpa using HO.out
      have HALL := Aside0.mk hall
      clear hxr hke hall
      go_wp2_with fail
      refine HQ.out.mono ?_
      rintro e w2 ⟨⟨hrep, v', rfl, hR⟩ | ⟨hrep, rfl⟩, hb2⟩
      · obtain ⟨A1, c1, hv1⟩ := Kd.R_slice hR
        subst hv1
        have HQ2 := Aside0.mk (EqualRows_calls w2 _ _ _ _ (Rd.of_R hR) ⟨A, c, rfl, hc, Kd.C_below HR.out (below_trans HB.out hb2)⟩)
        have HV2 := Aside0.mk (R_below HV.out hb2)
        have HB2 := Aside0.mk (below_trans HB.out hb2)
        have HREP := Aside0.mk hrep
        clear hrep hR hb2
        by_cases he : repRecs xs = l
        · rw [decide_eq_true he] at HQ2
          have HEQ := Aside0.mk he
          clear he
          go_wp2_with (refine HQ2.out.mono ?_; rintro e w3 ⟨rfl, ⟨m, rfl⟩⟩)
          go_ret2
          refine ⟨.inl ⟨?_, _, rfl, ?_⟩, below_drewN HB2.out _⟩
          · rw [readOk, ← HX.out, HALL.out, HREP.out, decide_eq_true HEQ.out]; rfl
          · rw [← HX.out]
            exact R_below HV2.out (below_drewN (Below.refl _ _) _)
        · rw [decide_eq_false he] at HQ2
          have HEQ := Aside0.mk he
          clear he
          go_wp2_with (refine HQ2.out.mono ?_; rintro e w3 ⟨rfl, ⟨m, rfl⟩⟩)
          go_ret2
          refine ⟨.inr ⟨?_, rfl⟩, below_drewN HB2.out _⟩
          rw [readOk, ← HX.out, HALL.out, HREP.out, decide_eq_false HEQ.out]; rfl
      · have HB2 := Aside0.mk (below_trans HB.out hb2)
        have HREP := Aside0.mk hrep
        clear hrep hb2
        go_wp2
        go_ret2
        refine ⟨.inr ⟨?_, rfl⟩, HB2.out⟩
        rw [readOk, ← HX.out, HALL.out, HREP.out]; rfl
end Go.Proofs.YthgjjfgedcaogaaDoor
