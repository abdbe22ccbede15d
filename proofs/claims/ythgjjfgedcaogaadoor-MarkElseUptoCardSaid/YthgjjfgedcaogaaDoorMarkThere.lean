/- (spot).there: is it a cell? -/
import Derived.Test.YthgjjfgedcaogaaDoorMarkCell
namespace Go.Proofs.YthgjjfgedcaogaaDoor
open Go.RowKit Go.Proofs.YthgjjfgedcaogaaDoorW.PrintWords Go.Proofs.YthgjjfgedcaogaaDoorW.PrintLast Go.Proofs.YthgjjfgedcaogaaDoorW.PrintMore
attribute [local go_sem] Oper.semAt_some

def isCell (l : List (List Str)) (row col : Int) : Prop := 0 ≤ row ∧ row < (l.length : Int) ∧ 0 ≤ col ∧ col < ((nthR l row.toNat).length : Int)
instance (l : List (List Str)) (row col : Int) : Decidable (isCell l row col) := inferInstanceAs (Decidable (_ ∧ _))

set_option maxHeartbeats 1000000 in
theorem there_calls (w : World) (v0 v1 : Value) (l : List (List Str)) (row col : Int) (hv : Rd kRow w v1 l) :
    Calls Tryd.prog 24 #[.agg #[v0, v1, .int .i64 row, .int .i64 col]] w fun e w' => e = .returned (.bool (decide (isCell l row col))) ∧ Below w.heap.size w w' := by
  obtain ⟨A, c, rfl, hc, hr⟩ := hv
  have HR := Aside0.mk (Kd.C_below hr (below1 w (.cells #[v0, .slice A l.length c, .int .i64 row, .int .i64 col] 59)))
  have hm := Kd.C_max hr
  clear hr
  by_cases h1 : row < 0
  · have e : decide (isCell l row col) = false := decide_eq_false (by unfold isCell; omega)
    have b1 : decide (0 ≤ row) = false := decide_eq_false (by omega)
    rw [e]
    clear e
    go_enter Tryd.func24, Tryd.ntmps24
    go_wp2_with fail
    go_quiet (fail)
    go_wp2
    go_ret
    exact ⟨rfl, by repeat (first | exact below1 _ _ | apply Below.drew | apply pw_below_drewN)⟩
  obtain ⟨k, rfl⟩ : ∃ k : Nat, row = (k : Int) := ⟨row.toNat, by omega⟩
  have b1 : decide (0 ≤ (k : Int)) = true := decide_eq_true (by omega)
  clear h1
  by_cases h2 : (l.length : Int) ≤ (k : Int)
  · have e : decide (isCell l (k : Int) col) = false := decide_eq_false (by unfold isCell; omega)
    have b2 : decide ((k : Int) < (l.length : Int)) = false := decide_eq_false (by omega)
    have n2 : decide (k < l.length) = false := decide_eq_false (by omega)
    rw [e]
    clear e
    go_enter Tryd.func24, Tryd.ntmps24
    go_wp2_with fail
    go_quiet (fail)
    go_wp2
    go_ret
    exact ⟨rfl, by repeat (first | exact below1 _ _ | apply Below.drew | apply pw_below_drewN)⟩
  have hlt : k < l.length := by omega
  have b2 : decide ((k : Int) < (l.length : Int)) = true := decide_eq_true (by omega)
  have n2 : decide (k < l.length) = true := decide_eq_true (by omega)
  clear h2
  by_cases h3 : col < 0
  · have e : decide (isCell l (k : Int) col) = false := decide_eq_false (by unfold isCell; omega)
    have b3 : decide (0 ≤ col) = false := decide_eq_false (by omega)
    rw [e]
    clear e
    go_enter Tryd.func24, Tryd.ntmps24
    go_wp2_with fail
    go_quiet (fail)
    go_wp2
    go_ret
    exact ⟨rfl, by repeat (first | exact below1 _ _ | apply Below.drew | apply pw_below_drewN)⟩
  obtain ⟨j, rfl⟩ : ∃ j : Nat, col = (j : Int) := ⟨col.toNat, by omega⟩
  have b3 : decide (0 ≤ (j : Int)) = true := decide_eq_true (by omega)
  clear h3
  obtain ⟨ad, A0, c0, e, hx, hz, hy⟩ := C_row HR.out hlt
  cases e
  have q1 : (k : Int) < (l.length : Int) := by omega
  clear hy
  by_cases h4 : ((nthR l k).length : Int) ≤ (j : Int)
  · have e : decide (isCell l (k : Int) (j : Int)) = false := decide_eq_false (by unfold isCell; simp only [Int.toNat_natCast]; omega)
    have b4 : decide ((j : Int) < ((nthR l k).length : Int)) = false := decide_eq_false (by omega)
    have n4 : decide (j < (nthR l k).length) = false := decide_eq_false (by omega)
    rw [e]
    clear e
    go_enter Tryd.func24, Tryd.ntmps24
    go_wp2_with fail
    go_quiet (fail)
    go_wp2
    go_ret
    exact ⟨rfl, by repeat (first | exact below1 _ _ | apply Below.drew | apply pw_below_drewN)⟩
  have b4 : decide ((j : Int) < ((nthR l k).length : Int)) = true := decide_eq_true (by omega)
  have n4 : decide (j < (nthR l k).length) = true := decide_eq_true (by omega)
  have e : decide (isCell l (k : Int) (j : Int)) = true := decide_eq_true (by unfold isCell; simp only [Int.toNat_natCast]; omega)
  rw [e]
  clear e
  go_enter Tryd.func24, Tryd.ntmps24
  go_wp2_with fail
  go_quiet (fail)
  go_wp2
  go_ret
  exact ⟨rfl, by repeat (first | exact below1 _ _ | apply Below.drew | apply pw_below_drewN)⟩
end Go.Proofs.YthgjjfgedcaogaaDoor
