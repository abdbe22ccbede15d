/- tartanref04.Total, tartanref04.Few, tartanlaw24.Few: how much there is; is it little? -/
import Derived.Test.YthgjjfgedcaogaaDoorCell
namespace Go.Proofs.YthgjjfgedcaogaaDoor
open Go.RowKit Go.Proofs.YthgjjfgedcaogaaDoorW.PrintWords Go.Proofs.YthgjjfgedcaogaaDoorW.PrintLast Go.Proofs.YthgjjfgedcaogaaDoorW.PrintMore
attribute [local go_sem] Oper.semAt_some

set_option maxHeartbeats 400000 in
theorem Total_calls (w : World) (v : Value) (t : Tab) (hv : RdT w v t) (hH : BRow t.head) (hB : BRows t.rows) :
    Calls Tryd.prog 22 #[v] w fun e w' => (∃ n : Nat, e = .returned (.int .i64 n)) ∧ Below w.heap.size w w' := by
  obtain ⟨v0, v1, rfl, ⟨Ah, ch, rfl, hch, hrh⟩, ⟨Ar, cr, rfl, hcr, hrr⟩⟩ := hv
  have HH := Aside0.mk (Kd.C_below hrh (below1 w (.cells #[.slice Ah t.head.length ch, .slice Ar t.rows.length cr] 34)))
  have HR := Aside0.mk (Kd.C_below hrr (below1 w (.cells #[.slice Ah t.head.length ch, .slice Ar t.rows.length cr] 34)))
  have HBH := Aside0.mk hH
  have HB := Aside0.mk hB
  have m0 := Kd.C_max hrh
  have m1 := Kd.C_max hrr
  have l0 := hH.1
  have l1 := hB.1
  clear hrh hrr hH hB
  go_enter Tryd.func22, Tryd.ntmps22
  go_wp2
  go_loop [3, 4] (fun v3 v4 => ∃ k n : Nat, v3 = .int .i64 (n : Int) ∧ v4 = .int .i64 (k : Int) ∧ n ≤ k * 1048576 ∧ k ≤ t.head.length) (fun _ v4 => t.head.length - (intOf v4).toNat)
  case atStart => exact ⟨0, 0, rfl, rfl, by omega, by omega⟩
  case round =>
    obtain ⟨k, n, rfl, rfl, hn, hk⟩ := hrel
    by_cases hlt : k < t.head.length
    · obtain ⟨ad, e, hx⟩ := C_str HH.out hlt
      cases e
      have q : (k : Int) < (t.head.length : Int) := by omega
      have hs : (nthS t.head k).size ≤ 1048576 := HBH.out.2 _ (mem_nth _ hlt)
      go_wp2
      go_round
      case measure => simp [intOf]; omega
      case rel => exact ⟨k + 1, n + (nthS t.head k).size, by go_num, by go_num, by omega, by omega⟩
    · have hn : n ≤ 1099511627776 := by have : k ≤ 1048576 := by omega
                                        omega
      go_wp2
      go_loop [3, 5] (fun v3 v5 => ∃ k n : Nat, v3 = .int .i64 (n : Int) ∧ v5 = .int .i64 (k : Int) ∧ n ≤ 1099511627776 + k * 1099511627776 ∧ k ≤ t.rows.length) (fun _ v5 => t.rows.length - (intOf v5).toNat)
      case atStart => exact ⟨0, n, rfl, rfl, by omega, by omega⟩
      case round =>
        obtain ⟨k, n, rfl, rfl, hn, hk⟩ := hrel
        by_cases hlt : k < t.rows.length
        · obtain ⟨ad, A0, c0, e, hx, hz, hy⟩ := C_row HR.out hlt
          cases e
          have q : (k : Int) < (t.rows.length : Int) := by omega
          have HY := Aside0.mk hy
          have HB0 := Aside0.mk (HB.out.2 _ (mem_nth [] hlt))
          have l2 : (nthR t.rows k).length ≤ 1048576 := HB0.out.1
          clear hy
          go_wp2
          go_loop [3, 6] (fun v3 v6 => ∃ j m : Nat, v3 = .int .i64 (m : Int) ∧ v6 = .int .i64 (j : Int) ∧ m ≤ n + j * 1048576 ∧ j ≤ (nthR t.rows k).length) (fun _ v6 => (nthR t.rows k).length - (intOf v6).toNat)
          case atStart => exact ⟨0, n, rfl, rfl, by omega, by omega⟩
          case round =>
            obtain ⟨j, m, rfl, rfl, hm, hj⟩ := hrel
            by_cases hjt : j < (nthR t.rows k).length
            · obtain ⟨a0, e, hx0⟩ := C_str HY.out hjt
              cases e
              have q1 : (j : Int) < ((nthR t.rows k).length : Int) := by omega
              have hs : (nthS (nthR t.rows k) j).size ≤ 1048576 := HB0.out.2 _ (mem_nth _ hjt)
              go_wp2
              go_round
              case measure => simp [intOf]; omega
              case rel => exact ⟨j + 1, m + (nthS (nthR t.rows k) j).size, by go_num, by go_num, by omega, by omega⟩
            · go_wp2
              go_round
              case measure => simp [intOf]; omega
              case rel => exact ⟨k + 1, m, rfl, by go_num, by omega, by omega⟩
        · go_wp2
          go_ret
          exact ⟨⟨n, rfl⟩, below1 _ _⟩

set_option maxHeartbeats 400000 in
theorem FewT_calls (w : World) (v : Value) (t : Tab) (hv : RdT w v t) (hH : BRow t.head) (hB : BRows t.rows) :
    Calls Tryd.prog 10 #[v] w fun e w' => (∃ b : Bool, e = .returned (.bool b)) ∧ Below w.heap.size w w' := by
  have HT0 := Aside0.mk hv
  obtain ⟨v0, v1, rfl, ⟨Ah, ch, rfl, hch, -⟩, h1⟩ := hv
  have HR := Aside0.mk (h1.below (below1 w (.cells #[.slice Ah t.head.length ch, v1] 34)))
  have m0 : t.head.length ≤ 1048576 := hH.1
  have HBH := Aside0.mk hH
  have HB := Aside0.mk hB
  clear h1 hH hB
  go_enter Tryd.func10, Tryd.ntmps10
  go_wp2_with fail
  refine (Few_calls _ _ t.rows HR.out HB.out).mono ?_
  rintro e w1 ⟨⟨b, rfl, -⟩, ⟨m, rfl⟩⟩
  cases b with
  | false =>
    go_wp2
    go_ret
    exact ⟨⟨_, rfl⟩, below_drewN (below1 _ _) m⟩
  | true =>
    by_cases h60 : t.head.length ≤ 60
    · have hb : decide ((t.head.length : Int) ≤ 60) = true := decide_eq_true (by omega)
      go_wp2_with fail
      refine (Total_calls _ _ t (HT0.out.below (below_drewN (below1 _ _) m)) HBH.out HB.out).mono ?_
      rintro e w2 ⟨⟨n, rfl⟩, hb2⟩
      have hb2' : Below w.heap.size w w2 := below_trans (below_drewN (below1 _ _) m) hb2
      clear hb2
      by_cases h8 : n ≤ 8000
      · have hb8 : decide ((n : Int) ≤ 8000) = true := decide_eq_true (by omega)
        go_wp2
        go_ret
        exact ⟨⟨_, rfl⟩, hb2'⟩
      · have hb8 : decide ((n : Int) ≤ 8000) = false := decide_eq_false (by omega)
        go_wp2
        go_ret
        exact ⟨⟨_, rfl⟩, hb2'⟩
    · have hb : decide ((t.head.length : Int) ≤ 60) = false := decide_eq_false (by omega)
      go_wp2
      go_ret
      exact ⟨⟨_, rfl⟩, below_drewN (below1 _ _) m⟩
end Go.Proofs.YthgjjfgedcaogaaDoor
