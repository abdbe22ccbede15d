/- slices.EqualFunc of two slices of rows, each held against its fellow by slices.Equal: are they one list of lists? -/
import Derived.Test.YthgjjfgedcaogaaDoorEqualStr
namespace Go.Proofs.YthgjjfgedcaogaaDoor
open Go.RowKit Go.Proofs.YthgjjfgedcaogaaDoorW.PrintWords Go.Proofs.YthgjjfgedcaogaaDoorW.PrintLast Go.Proofs.YthgjjfgedcaogaaDoorW.PrintMore

set_option maxHeartbeats 400000 in
theorem EqualRows_calls (w : World) (v v' : Value) (l l' : List (List Str)) (hv : Rd kRow w v l) (hv' : Rd kRow w v' l') :
    Calls Tryd.prog 19 #[v, v', .func (.func 20) #[] #[]] w fun e w' => e = .returned (.bool (decide (l = l'))) ∧ Drawn0 w w' := by
  obtain ⟨A, c, rfl, hc, hr⟩ := hv
  obtain ⟨A', c', rfl, hc', hr'⟩ := hv'
  have HR := Aside0.mk hr
  have HR' := Aside0.mk hr'
  have hm := (Kd.C_max hr)
  clear hr hr'
  by_cases hl : l.length = l'.length
  · have hb : ((l.length : Int) != (l'.length : Int)) = false := by simp [hl]
    have HL := Aside0.mk hl
    clear hl
    go_enter Tryd.func19, Tryd.ntmps19
    go_wp2
    go_loopw [17] (fun v17 w' => ∃ k : Nat, v17 = .int .i64 k ∧ k ≤ l.length ∧ Aside0 (l.take k = l'.take k) ∧ Drawn0 w w') (fun v17 _ => l.length - (intOf v17).toNat)
    case atStart => exact ⟨0, rfl, Nat.zero_le _, ⟨by simp⟩, Drawn0.refl _⟩
    case round =>
      obtain ⟨k, rfl, hk, HT, ⟨m, rfl⟩⟩ := hrel
      by_cases hlt : k < l.length
      · have q : k < l'.length := by have := HL.out; omega
        obtain ⟨ad, A0, c0, e, hx, hz, hy⟩ := C_row HR.out hlt
        obtain ⟨ad', A0', c0', e', hx', hz', hy'⟩ := C_row HR'.out q
        cases e
        cases e'
        have q1 : (k : Int) < (l.length : Int) := by omega
        have q2 : (k : Int) < (l'.length : Int) := by omega
        have HQ := Aside0.mk (EqualStr_calls (w.drewN m) _ _ _ _ ⟨A0, c0, rfl, hz, Kd.C_drewN hy m⟩ ⟨A0', c0', rfl, hz', Kd.C_drewN hy' m⟩)
        clear hy hy'
        by_cases he : nthR l k = nthR l' k
        · rw [decide_eq_true he] at HQ
          have HE := Aside0.mk he
          clear he
          go_wp2_with (go_at_call 20; refine HQ.out.mono ?_; rintro e w' ⟨rfl, ⟨m1, rfl⟩⟩)
          go_roundw
          case measure => simp [intOf]; omega
          case rel => exact ⟨k + 1, by go_num, by omega, ⟨by rw [take_nth [] hlt, take_nth [] q, HT.out]; exact congrArg (fun x => l'.take k ++ [x]) HE.out⟩, by repeat (first | exact Drawn0.refl _ | apply Drawn0.step)⟩
        · rw [decide_eq_false he] at HQ
          have HE := Aside0.mk he
          clear he
          go_wp2_with (go_at_call 20; refine HQ.out.mono ?_; rintro e w' ⟨rfl, ⟨m1, rfl⟩⟩)
          go_ret
          exact ⟨ret_bool (decide_eq_false (fun e => HE.out (congrArg (fun x => nthR x k) e))).symm, by repeat (first | exact Drawn0.refl _ | apply Drawn0.step)⟩
      · go_wp2
        go_ret
        exact ⟨ret_bool (by
          have h := HT.out
          rw [take_all (by omega), take_all (by have := HL.out; omega)] at h
          rw [decide_eq_true h]), (Drawn0.refl _).step _⟩
  · have hb : ((l.length : Int) != (l'.length : Int)) = true := by simp; omega
    have HL := Aside0.mk hl
    clear hl
    go_enter Tryd.func19, Tryd.ntmps19
    go_wp2
    go_ret
    exact ⟨ret_bool (decide_eq_false (fun e => HL.out (congrArg List.length e))).symm, Drawn0.refl _⟩
end Go.Proofs.YthgjjfgedcaogaaDoor
