/- tartanlaw24.MarkOnly: what is read is reported just so. -/
import Derived.Test.YthgjjfgedcaogaaDoorMarkWorks
namespace Go.Proofs.YthgjjfgedcaogaaDoor
open Go.RowKit Go.Shelf Go.Proofs.YthgjjfgedcaogaaDoorW.PrintWords Go.Proofs.YthgjjfgedcaogaaDoorW.PrintLast Go.Proofs.YthgjjfgedcaogaaDoorW.PrintMore
attribute [local go_sem] Oper.semAt_some

set_option maxRecDepth 4000 in
set_option maxHeartbeats 1000000 in
theorem MarkOnly_calls (w : World) (v : Value) (l : List (List Str)) (hv : Rd kRow w v l) (he : Env w) (hB : BRows l) :
    Calls Tryd.prog 3 #[v] w fun e w' => e = .returned (.bool true) ∧ Below w.heap.size w w' := by
  obtain ⟨A, c, rfl, hc, hr⟩ := hv
  have HR := Aside0.mk hr
  have HE := Aside0.mk he
  have HB := Aside0.mk hB
  clear hr he hB
  go_enter Tryd.func3, Tryd.ntmps3
  go_wp2_with fail
  refine (works_calls _ HE.out).mono ?_
  rintro e w1 ⟨rfl, hb1⟩
  have HR1 := Aside0.mk (Kd.C_below HR.out hb1)
  have B1 := Aside0.mk hb1
  clear hb1
  go_wp2_with fail
  refine (Few_calls _ _ l ⟨A, c, rfl, hc, HR1.out⟩ HB.out).mono ?_
  rintro e w2 ⟨⟨b, rfl, hfew⟩, ⟨m, rfl⟩⟩
  cases b with
  | false =>
    go_wp2
    go_ret
    exact ⟨rfl, below_drewN B1.out m⟩
  | true =>
    have HF := Aside0.mk (hfew rfl)
    clear hfew
    have B2 := Aside0.mk (below_drewN B1.out m)
    have HR2 := Aside0.mk (Kd.C_drewN HR1.out m)
    go_wp2_with fail
    refine (Read_calls _ _ l ⟨A, c, rfl, hc, HR2.out⟩ (HE.out.below B2.out) (fun r hr s hs => by have := (HF.out.2 r hr).2 s hs; omega) (by have := HF.out.1; omega)).mono ?_
    rintro e w3 ⟨⟨hok, vl, rfl, hRl⟩ | ⟨hno, rfl⟩, hb3⟩
    · have B3 := Aside0.mk (below_trans B2.out hb3)
      have HR3 := Aside0.mk (Kd.C_below HR2.out hb3)
      have HL := Aside0.mk (Rd.of_R hRl)
      obtain ⟨Al, cl, hvl⟩ := Kd.R_slice hRl
      subst hvl
      have hk : repOk (readRows l) = true ∧ repRecs (readRows l) = l := by
        simp only [readOk, Bool.and_eq_true, decide_eq_true_eq] at hok
        exact hok.2
      obtain ⟨hk1, hk2⟩ := hk
      have K1 := Aside0.mk hk1
      have K2 := Aside0.mk hk2
      clear hRl hok hb3 hk1 hk2
      go_wp2_with fail
      refine (Report_calls _ _ (readRows l) HL.out (HE.out.below B3.out).pow ?_ ?_).mono ?_
      · intro c hc
        obtain ⟨r, _, rfl⟩ := List.mem_map.1 hc
        have := readNum_range (nthS r 1)
        exact ⟨by show _ ≤ readNum (nthS r 1); omega, by show readNum (nthS r 1) ≤ _; omega⟩
      · have := HF.out.1
        simp [readRows]
        omega
      rintro e w4 ⟨⟨-, vk, rfl, hRk⟩ | ⟨hrno, rfl⟩, hb4⟩
      · have B4 := Aside0.mk (below_trans B3.out hb4)
        have HR4 := Aside0.mk (Kd.C_below HR3.out hb4)
        have HKK := Aside0.mk (Rd.of_R hRk)
        obtain ⟨Ak, ck, hvk⟩ := Kd.R_slice hRk
        subst hvk
        have HQ := Aside0.mk (Same_calls w4 _ _ (repRecs (readRows l)) l HKK.out ⟨A, c, rfl, hc, HR4.out⟩)
        rw [K2.out, decide_eq_true rfl] at HQ
        rw [K2.out]
        clear hRk hb4
        go_wp2_with (refine HQ.out.mono ?_; rintro e w5 ⟨rfl, ⟨m5, rfl⟩⟩)
        go_ret
        exact ⟨rfl, below_drewN B4.out m5⟩
      · rw [K1.out] at hrno
        cases hrno
    · have B3 := Aside0.mk (below_trans B2.out hb3)
      clear hb3
      go_wp2
      go_ret
      exact ⟨rfl, B3.out⟩
end Go.Proofs.YthgjjfgedcaogaaDoor
