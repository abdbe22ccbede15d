/- slices.Equal of two slices of strings: are they one list? -/
import Derived.Test.YthgjjfgedcaogaaDoorBase
namespace Go.Proofs.YthgjjfgedcaogaaDoor
open Go.RowKit Go.Proofs.YthgjjfgedcaogaaDoorW.PrintWords Go.Proofs.YthgjjfgedcaogaaDoorW.PrintLast Go.Proofs.YthgjjfgedcaogaaDoorW.PrintMore

set_option maxHeartbeats 400000 in
theorem EqualStr_calls (w : World) (v v' : Value) (l l' : List Str) (hv : Rd kStr w v l) (hv' : Rd kStr w v' l') :
    Calls Tryd.prog 20 #[v, v'] w fun e w' => e = .returned (.bool (decide (l = l'))) ∧ Drawn0 w w' := by
  obtain ⟨A, c, rfl, hc, hr⟩ := hv
  obtain ⟨A', c', rfl, hc', hr'⟩ := hv'
  have HR := Aside0.mk hr
  have HR' := Aside0.mk hr'
  have hm := (Kd.C_max hr)
  clear hr hr'
  by_cases hl : l.length = l'.length
  · have hb : ((l.length : Int) != (l'.length : Int)) = false := by simp [hl]
    have HL := Aside0.mk hl
    clear hl
    go_enter Tryd.func20, Tryd.ntmps20
    go_wp2
    go_loopw [13] (fun v13 w' => ∃ k : Nat, v13 = .int .i64 k ∧ k ≤ l.length ∧ Aside0 (l.take k = l'.take k) ∧ Drawn0 w w') (fun v13 _ => l.length - (intOf v13).toNat)
    case atStart => exact ⟨0, rfl, Nat.zero_le _, ⟨by simp⟩, Drawn0.refl _⟩
    case round =>
      obtain ⟨k, rfl, hk, HT, ⟨m, rfl⟩⟩ := hrel
      by_cases hlt : k < l.length
      · obtain ⟨ad, e, hx⟩ := C_str HR.out hlt
        obtain ⟨ad', e', hx'⟩ := C_str HR'.out (show k < l'.length by have := HL.out; omega)
        cases e
        cases e'
        have q : k < l'.length := by have := HL.out; omega
        have q1 : (k : Int) < (l.length : Int) := by omega
        have q2 : (k : Int) < (l'.length : Int) := by omega
        by_cases he : nthS l k = nthS l' k
        · obtain ⟨b1, b2⟩ := str_eqB he
          have HE := Aside0.mk he
          clear he
          go_wp2
          go_quiet (fail)
          go_wp2
          go_roundw
          case measure => simp [intOf]; omega
          case rel => exact ⟨k + 1, by go_num, by omega, ⟨by rw [take_nth ⟨#[]⟩ hlt, take_nth ⟨#[]⟩ q, HT.out]; exact congrArg (fun x => l'.take k ++ [x]) HE.out⟩, (Drawn0.refl _).step _⟩
        · obtain ⟨b1, b2⟩ := str_neB he
          have HE := Aside0.mk he
          clear he
          go_wp2
          go_quiet (fail)
          go_wp2
          go_ret
          exact ⟨ret_bool (decide_eq_false (fun e => HE.out (congrArg (fun x => nthS x k) e))).symm, ((Drawn0.refl _).step _).step _⟩
      · go_wp2
        go_ret
        exact ⟨ret_bool (by
          have h := HT.out
          rw [take_all (by omega), take_all (by have := HL.out; omega)] at h
          rw [decide_eq_true h]), (Drawn0.refl _).step _⟩
  · have hb : ((l.length : Int) != (l'.length : Int)) = true := by simp; omega
    have HL := Aside0.mk hl
    clear hl
    go_enter Tryd.func20, Tryd.ntmps20
    go_wp2
    go_ret
    exact ⟨ret_bool (decide_eq_false (fun e => HL.out (congrArg List.length e))).symm, Drawn0.refl _⟩
end Go.Proofs.YthgjjfgedcaogaaDoor
