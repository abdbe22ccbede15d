/- slices.Index of strings, table.Find, table.Cell. -/
import Derived.Test.YthgjjfgedcaogaaDoorRef03
namespace Go.Proofs.YthgjjfgedcaogaaDoor
open Go.RowKit Go.Proofs.YthgjjfgedcaogaaDoorW.PrintWords Go.Proofs.YthgjjfgedcaogaaDoorW.PrintLast Go.Proofs.YthgjjfgedcaogaaDoorW.PrintMore
attribute [local go_sem] Oper.semAt_some

def findFrom : List Str → Str → Nat → Int
  | [], _, _ => -1
  | x :: r, s, k => if s = x then (k : Int) else findFrom r s (k + 1)
def findS (l : List Str) (s : Str) : Int := findFrom l s 0
theorem drop_nth {α : Type} (d : α) {l : List α} {k : Nat} (h : k < l.length) : l.drop k = nth d l k :: l.drop (k + 1) := by rw [nth_get d h]; exact List.drop_eq_getElem_cons h

set_option maxHeartbeats 400000 in
theorem Index_calls (w : World) (v : Value) (l : List Str) (s : Str) (hv : Rd kStr w v l) :
    Calls Tryd.prog 25 #[v, .string s] w fun e w' => e = .returned (.int .i64 (findS l s)) ∧ Drawn0 w w' := by
  obtain ⟨A, c, rfl, hc, hr⟩ := hv
  have HR := Aside0.mk hr
  have hm := (Kd.C_max hr)
  clear hr
  go_enter Tryd.func25, Tryd.ntmps25
  go_wp2
  go_loopw [8] (fun v8 w' => ∃ k : Nat, v8 = .int .i64 k ∧ k ≤ l.length ∧ Aside0 (findS l s = findFrom (l.drop k) s k) ∧ Drawn0 w w') (fun v8 _ => l.length - (intOf v8).toNat)
  case atStart => exact ⟨0, rfl, Nat.zero_le _, ⟨rfl⟩, Drawn0.refl _⟩
  case round =>
    obtain ⟨k, rfl, hk, HT, ⟨m, rfl⟩⟩ := hrel
    by_cases hlt : k < l.length
    · obtain ⟨ad, e, hx⟩ := C_str HR.out hlt
      cases e
      have q1 : (k : Int) < (l.length : Int) := by omega
      by_cases he : s = nthS l k
      · obtain ⟨b1, b2⟩ := str_eqB he
        have HE := Aside0.mk he
        clear he
        go_wp2
        go_ret
        refine ⟨ret_int ?_, by repeat (first | exact Drawn0.refl _ | apply Drawn0.step)⟩
        rw [HT.out, drop_nth (⟨#[]⟩ : Str) hlt]
        exact (if_pos HE.out).symm
      · obtain ⟨b1, b2⟩ := str_neB he
        have HE := Aside0.mk he
        clear he
        go_wp2
        go_roundw
        case measure => simp [intOf]; omega
        case rel =>
          refine ⟨k + 1, by go_num, by omega, ⟨?_⟩, by repeat (first | exact Drawn0.refl _ | apply Drawn0.step)⟩
          rw [HT.out, drop_nth (⟨#[]⟩ : Str) hlt]
          exact if_neg HE.out
    · go_wp2
      go_ret
      refine ⟨ret_int ?_, by repeat (first | exact Drawn0.refl _ | apply Drawn0.step)⟩
      rw [HT.out, List.drop_of_length_le (by omega)]
      rfl

theorem Find_calls (w : World) (v : Value) (t : Tab) (s : Str) (hv : RdT w v t) :
    Calls Tryd.prog 14 #[v, .string s] w fun e w' => e = .returned (.int .i64 (findS t.head s)) ∧ Below w.heap.size w w' := by
  obtain ⟨v0, v1, rfl, h0, h1⟩ := hv
  have H0 := Aside0.mk h0
  clear h0 h1
  go_enter Tryd.func14, Tryd.ntmps14
  go_wp2_with (refine (Index_calls _ _ _ _ (H0.out.below (below1 _ _))).mono ?_; rintro e w' ⟨rfl, ⟨m, rfl⟩⟩)
  go_ret
  exact ⟨rfl, pw_below_drewN (below1 _ _) _⟩

def cellOf (l : List (List Str)) (row col : Int) : Str := if 0 ≤ row ∧ row < (l.length : Int) ∧ 0 ≤ col ∧ col < ((nthR l row.toNat).length : Int) then nthS (nthR l row.toNat) col.toNat else ⟨#[]⟩
theorem Cell_calls (w : World) (v : Value) (t : Tab) (row col : Int) (hv : RdT w v t) :
    Calls Tryd.prog 15 #[v, .int .i64 row, .int .i64 col] w fun e w' => e = .returned (.string (cellOf t.rows row col)) ∧ Below w.heap.size w w' := by
  obtain ⟨v0, v1, rfl, h0, A, c, rfl, hc, hr⟩ := hv
  have HR := Aside0.mk (Kd.C_below hr (below1 w (.cells #[v0, .slice A t.rows.length c] 34)))
  have hm := Kd.C_max hr
  clear h0 hr
  by_cases h1 : row < 0
  · have e : cellOf t.rows row col = ⟨#[]⟩ := if_neg (by omega)
    rw [e]
    clear e
    go_enter Tryd.func15, Tryd.ntmps15
    go_wp2
    go_ret
    exact ⟨rfl, below1 _ _⟩
  obtain ⟨k, rfl⟩ : ∃ k : Nat, row = (k : Int) := ⟨row.toNat, by omega⟩
  have b1 : decide ((k : Int) < 0) = false := decide_eq_false h1
  clear h1
  by_cases h2 : (t.rows.length : Int) ≤ (k : Int)
  · have e : cellOf t.rows (k : Int) col = ⟨#[]⟩ := if_neg (by omega)
    rw [e]
    have b2 : decide ((t.rows.length : Int) ≤ (k : Int)) = true := decide_eq_true h2
    clear e
    go_enter Tryd.func15, Tryd.ntmps15
    go_wp2
    go_ret
    exact ⟨rfl, below1 _ _⟩
  have hlt : k < t.rows.length := by omega
  have b2 : decide ((t.rows.length : Int) ≤ (k : Int)) = false := decide_eq_false h2
  clear h2
  by_cases h3 : col < 0
  · have e : cellOf t.rows (k : Int) col = ⟨#[]⟩ := if_neg (by omega)
    rw [e]
    clear e
    go_enter Tryd.func15, Tryd.ntmps15
    go_wp2
    go_ret
    exact ⟨rfl, below1 _ _⟩
  obtain ⟨j, rfl⟩ : ∃ j : Nat, col = (j : Int) := ⟨col.toNat, by omega⟩
  have b3 : decide ((j : Int) < 0) = false := decide_eq_false h3
  clear h3
  obtain ⟨ad, A0, c0, e, hx, hz, hy⟩ := C_row HR.out hlt
  cases e
  have q1 : (k : Int) < (t.rows.length : Int) := by omega
  have HY := Aside0.mk hy
  have hm0 := Kd.C_max hy
  clear hy
  by_cases h4 : ((nthR t.rows k).length : Int) ≤ (j : Int)
  · have e : cellOf t.rows (k : Int) (j : Int) = ⟨#[]⟩ := if_neg (by simp only [Int.toNat_natCast]; omega)
    rw [e]
    have b4 : decide (((nthR t.rows k).length : Int) ≤ (j : Int)) = true := decide_eq_true h4
    clear e
    go_enter Tryd.func15, Tryd.ntmps15
    go_wp2
    go_ret
    exact ⟨rfl, below1 _ _⟩
  have hjt : j < (nthR t.rows k).length := by omega
  have b4 : decide (((nthR t.rows k).length : Int) ≤ (j : Int)) = false := decide_eq_false h4
  clear h4
  have q2 : (j : Int) < ((nthR t.rows k).length : Int) := by omega
  obtain ⟨a0, e, hx0⟩ := C_str HY.out hjt
  cases e
  have e : cellOf t.rows (k : Int) (j : Int) = nthS (nthR t.rows k) j := if_pos (by simp only [Int.toNat_natCast]; omega)
  rw [e]
  clear e
  go_enter Tryd.func15, Tryd.ntmps15
  go_wp2
  go_ret
  exact ⟨rfl, below1 _ _⟩
end Go.Proofs.YthgjjfgedcaogaaDoor
