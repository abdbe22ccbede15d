/- mark.word, mark.number: a kind's word; a row's number. -/
import Derived.Test.YthgjjfgedcaogaaDoorPow
namespace Go.Proofs.YthgjjfgedcaogaaDoor
open Go.RowKit Go.Proofs.YthgjjfgedcaogaaDoorW.PrintWords Go.Proofs.YthgjjfgedcaogaaDoorW.PrintLast Go.Proofs.YthgjjfgedcaogaaDoorW.PrintMore

def wordOf (n : Int) : Str := if n = 1 then ⟨#[110, 97, 109, 101]⟩ else if n = 2 then ⟨#[99, 111, 108, 117, 109, 110]⟩ else if n = 3 then ⟨#[114, 111, 119]⟩ else if n = 4 then ⟨#[97, 100, 100]⟩ else if n = 5 then ⟨#[99, 101, 108, 108]⟩ else ⟨#[]⟩
set_option maxHeartbeats 400000 in
theorem word_calls (n : Int) (w : World) : Calls Tryd.prog 18 #[.int .i64 n] w fun e w' => e = .returned (.string (wordOf n)) ∧ Below w.heap.size w w' := by
  by_cases h : n < 1
  · have e : wordOf n = ⟨#[]⟩ := by unfold wordOf; repeat rw [if_neg (by omega)]
    rw [e]
    go_enter Tryd.func18, Tryd.ntmps18
    go_wp2
    go_ret
    exact ⟨rfl, below1 _ _⟩
  · by_cases h5 : n ≥ 6
    · have e : wordOf n = ⟨#[]⟩ := by unfold wordOf; repeat rw [if_neg (by omega)]
      rw [e]
      have hb : decide (n < 1) = false := by simpa using h
      go_enter Tryd.func18, Tryd.ntmps18
      go_wp2
      go_ret
      exact ⟨rfl, below1 _ _⟩
    · have : n = 1 ∨ n = 2 ∨ n = 3 ∨ n = 4 ∨ n = 5 := by omega
      clear h h5
      rcases this with rfl | rfl | rfl | rfl | rfl
      all_goals
        go_enter Tryd.func18, Tryd.ntmps18
        go_wp2
        go_ret
        exact ⟨rfl, below1 _ _⟩
theorem number_calls (n : Int) (h0 : -9223372036854775808 ≤ n) (h1 : n ≤ 9223372036854775807) (w : World) (hp : Pow w) :
    Calls Tryd.prog 29 #[.int .i64 n] w fun e w' => e = .returned (.string (numberOf n)) ∧ Below w.heap.size w w' := by
  have HQ := Aside0.mk (Itoa_calls n h0 h1 w hp)
  by_cases h : n < 0
  · have e : numberOf n = ⟨#[45]⟩ := if_pos h
    rw [e]
    clear e
    go_enter Tryd.func29, Tryd.ntmps29
    go_wp2
    go_ret
    exact ⟨rfl, Below.refl _ _⟩
  · have e : numberOf n = ⟨(Lib.itoa n).toArray⟩ := if_neg h
    rw [e]
    clear e
    go_enter Tryd.func29, Tryd.ntmps29
    go_wp2_with (go_at_call 36; refine HQ.out.mono ?_; rintro e w' ⟨rfl, hb⟩)
    go_ret
    exact ⟨rfl, hb⟩
end Go.Proofs.YthgjjfgedcaogaaDoor
