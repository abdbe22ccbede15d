/- tartanref03: Row, Same: are they alike? Few: few and short. -/
import Derived.Test.YthgjjfgedcaogaaDoorEqualStr
import Derived.Test.YthgjjfgedcaogaaDoorHeldIn
namespace Go.Proofs.YthgjjfgedcaogaaDoor
open Go.RowKit Go.Proofs.YthgjjfgedcaogaaDoorW.PrintWords Go.Proofs.YthgjjfgedcaogaaDoorW.PrintLast Go.Proofs.YthgjjfgedcaogaaDoorW.PrintMore
attribute [local go_sem] Oper.semAt_some

set_option maxHeartbeats 400000 in
theorem Row_calls (w : World) (v v' : Value) (l l' : List Str) (hv : Rd kStr w v l) (hv' : Rd kStr w v' l') :
    Calls Tryd.prog 13 #[v, v'] w fun e w' => e = .returned (.bool (decide (l = l'))) ∧ Drawn0 w w' := by
  obtain ⟨A, c, rfl, hc, hr⟩ := hv
  obtain ⟨A', c', rfl, hc', hr'⟩ := hv'
  have HR := Aside0.mk hr
  have HR' := Aside0.mk hr'
  have hm := (Kd.C_max hr)
  clear hr hr'
  by_cases hl : l.length = l'.length
  · have hb : ((l.length : Int) != (l'.length : Int)) = false := by simp [hl]
    have HL := Aside0.mk hl
    clear hl
    go_enter Tryd.func13, Tryd.ntmps13
    go_wp2
    go_loopw [5] (fun v5 w' => ∃ k : Nat, v5 = .int .i64 k ∧ k ≤ l.length ∧ Aside0 (l.take k = l'.take k) ∧ Drawn0 w w') (fun v5 _ => l.length - (intOf v5).toNat)
    case atStart => exact ⟨0, rfl, Nat.zero_le _, ⟨by simp⟩, Drawn0.refl _⟩
    case round =>
      obtain ⟨k, rfl, hk, HT, ⟨m, rfl⟩⟩ := hrel
      by_cases hlt : k < l.length
      · obtain ⟨ad, e, hx⟩ := C_str HR.out hlt
        obtain ⟨ad', e', hx'⟩ := C_str HR'.out (show k < l'.length by have := HL.out; omega)
        cases e
        cases e'
        have q : k < l'.length := by have := HL.out; omega
        have q1 : (k : Int) < (l.length : Int) := by omega
        have q2 : (k : Int) < (l'.length : Int) := by omega
        by_cases he : nthS l k = nthS l' k
        · obtain ⟨b1, b2⟩ := str_eqB he
          have HE := Aside0.mk he
          clear he
          go_wp2
          go_quiet (fail)
          go_wp2
          go_roundw
          case measure => simp [intOf]; omega
          case rel => exact ⟨k + 1, by go_num, by omega, ⟨by rw [take_nth ⟨#[]⟩ hlt, take_nth ⟨#[]⟩ q, HT.out]; exact congrArg (fun x => l'.take k ++ [x]) HE.out⟩, (Drawn0.refl _).step _⟩
        · obtain ⟨b1, b2⟩ := str_neB he
          have HE := Aside0.mk he
          clear he
          go_wp2
          go_quiet (fail)
          go_wp2
          go_ret
          exact ⟨ret_bool (decide_eq_false (fun e => HE.out (congrArg (fun x => nthS x k) e))).symm, ((Drawn0.refl _).step _).step _⟩
      · go_wp2
        go_ret
        exact ⟨ret_bool (by
          have h := HT.out
          rw [take_all (by omega), take_all (by have := HL.out; omega)] at h
          rw [decide_eq_true h]), (Drawn0.refl _).step _⟩
  · have hb : ((l.length : Int) != (l'.length : Int)) = true := by simp; omega
    have HL := Aside0.mk hl
    clear hl
    go_enter Tryd.func13, Tryd.ntmps13
    go_wp2
    go_ret
    exact ⟨ret_bool (decide_eq_false (fun e => HL.out (congrArg List.length e))).symm, Drawn0.refl _⟩


set_option maxHeartbeats 400000 in
theorem Same_calls (w : World) (v v' : Value) (l l' : List (List Str)) (hv : Rd kRow w v l) (hv' : Rd kRow w v' l') :
    Calls Tryd.prog 9 #[v, v'] w fun e w' => e = .returned (.bool (decide (l = l'))) ∧ Drawn0 w w' := by
  obtain ⟨A, c, rfl, hc, hr⟩ := hv
  obtain ⟨A', c', rfl, hc', hr'⟩ := hv'
  have HR := Aside0.mk hr
  have HR' := Aside0.mk hr'
  have hm := (Kd.C_max hr)
  clear hr hr'
  by_cases hl : l.length = l'.length
  · have hb : ((l.length : Int) != (l'.length : Int)) = false := by simp [hl]
    have HL := Aside0.mk hl
    clear hl
    go_enter Tryd.func9, Tryd.ntmps9
    go_wp2
    go_loopw [5] (fun v5 w' => ∃ k : Nat, v5 = .int .i64 k ∧ k ≤ l.length ∧ Aside0 (l.take k = l'.take k) ∧ Drawn0 w w') (fun v5 _ => l.length - (intOf v5).toNat)
    case atStart => exact ⟨0, rfl, Nat.zero_le _, ⟨by simp⟩, Drawn0.refl _⟩
    case round =>
      obtain ⟨k, rfl, hk, HT, ⟨m, rfl⟩⟩ := hrel
      by_cases hlt : k < l.length
      · have q : k < l'.length := by have := HL.out; omega
        obtain ⟨ad, A0, c0, e, hx, hz, hy⟩ := C_row HR.out hlt
        obtain ⟨ad', A0', c0', e', hx', hz', hy'⟩ := C_row HR'.out q
        cases e
        cases e'
        have q1 : (k : Int) < (l.length : Int) := by omega
        have q2 : (k : Int) < (l'.length : Int) := by omega
        have HY := Aside0.mk hy
        have HY' := Aside0.mk hy'
        clear hy hy'
        go_wp2_with fail
        have hS0 : Drawn0 w (w.drewN m).drew := (Drawn0.refl _).step _ |>.step _
        refine region_held0 (fun W => Drawn0 w W) [] (by kernel_rfl) ?_
        refine anyHI_take (i := 0) (.slice (some ad) l.length c) rfl (by kernel_rfl) (by kernel_rfl) (by kernel_rfl) (by kernel_rfl) (by kernel_rfl) (fun _ _ _ h => h) hS0 (Or.inl ⟨rfl, fun W hS => by go_simp⟩) ?_
        refine anyHI_take (i := 1) (.int .i64 (k : Int)) rfl (by kernel_rfl) (by kernel_rfl) (by kernel_rfl) (by kernel_rfl) (by kernel_rfl) (fun _ _ _ h => h) hS0 (Or.inl ⟨rfl, fun W hS => by go_simp⟩) ?_
        refine anyHI_take (i := 2) (.pointer (some (ad.add k))) rfl (by kernel_rfl) (by kernel_rfl) (by kernel_rfl) (by kernel_rfl) (by kernel_rfl) (fun _ _ _ h => h) hS0 (Or.inl ⟨rfl, fun W hS => by go_simp⟩) ?_
        refine anyHI_take (i := 3) (.slice A0 (nthR l k).length c0) rfl (by kernel_rfl) (by kernel_rfl) (by kernel_rfl) (by kernel_rfl) (by kernel_rfl) (fun _ _ _ h => h) hS0 (Or.inl ⟨rfl, fun W hS => by obtain ⟨m', rfl⟩ := hS; go_simp⟩) ?_
        refine anyHI_take (i := 4) (.slice (some ad') l'.length c') rfl (by kernel_rfl) (by kernel_rfl) (by kernel_rfl) (by kernel_rfl) (by kernel_rfl) (fun _ _ _ h => h) hS0 (Or.inl ⟨rfl, fun W hS => by go_simp⟩) ?_
        refine anyHI_take (i := 5) (.int .i64 (k : Int)) rfl (by kernel_rfl) (by kernel_rfl) (by kernel_rfl) (by kernel_rfl) (by kernel_rfl) (fun _ _ _ h => h) hS0 (Or.inl ⟨rfl, fun W hS => by go_simp⟩) ?_
        refine anyHI_take (i := 6) (.pointer (some (ad'.add k))) rfl (by kernel_rfl) (by kernel_rfl) (by kernel_rfl) (by kernel_rfl) (by kernel_rfl) (fun _ _ _ h => h) hS0 (Or.inl ⟨rfl, fun W hS => by go_simp⟩) ?_
        refine anyHI_take (i := 7) (.slice A0' (nthR l' k).length c0') rfl (by kernel_rfl) (by kernel_rfl) (by kernel_rfl) (by kernel_rfl) (by kernel_rfl) (fun _ _ _ h => h) hS0 (Or.inl ⟨rfl, fun W hS => by obtain ⟨m', rfl⟩ := hS; go_simp⟩) ?_
        refine anyHI_only (i := 8) rfl (by kernel_rfl) rfl ?_
        go_simp
        refine ⟨trivial, rfl, (callsIn_wide.2 (Row_calls (w.drewN (m + 1)) _ _ _ _ ⟨A0, c0, rfl, hz, Kd.C_drewN HY.out _⟩ ⟨A0', c0', rfl, hz', Kd.C_drewN HY'.out _⟩)).mono ?_⟩
        rintro e w2 ⟨rfl, ⟨m1, rfl⟩⟩
        refine ⟨fun h => h.step _, ?_⟩
        refine anyHI_only (i := 9) rfl (by kernel_rfl) rfl ?_
        by_cases he : nthR l k = nthR l' k
        · rw [decide_eq_true he]
          have HE := Aside0.mk he
          clear he
          go_simp
          refine anyHI_done (by kernel_rfl) ?_ _
          go_wp2
          go_roundw
          case measure => simp [intOf]; omega
          case rel => exact ⟨k + 1, by go_num, by omega, ⟨by rw [take_nth [] hlt, take_nth [] q, HT.out]; exact congrArg (fun x => l'.take k ++ [x]) HE.out⟩, by repeat (first | exact Drawn0.refl _ | apply Drawn0.step)⟩
        · rw [decide_eq_false he]
          have HE := Aside0.mk he
          clear he
          go_simp
          refine anyHI_done (by kernel_rfl) ?_ _
          go_wp2
          go_ret
          exact ⟨ret_bool (decide_eq_false (fun e => HE.out (congrArg (fun x => nthR x k) e))).symm, by repeat (first | exact Drawn0.refl _ | apply Drawn0.step)⟩
      · go_wp2
        go_ret
        exact ⟨ret_bool (by
          have h := HT.out
          rw [take_all (by omega), take_all (by have := HL.out; omega)] at h
          rw [decide_eq_true h]), (Drawn0.refl _).step _⟩
  · have hb : ((l.length : Int) != (l'.length : Int)) = true := by simp; omega
    have HL := Aside0.mk hl
    clear hl
    go_enter Tryd.func9, Tryd.ntmps9
    go_wp2
    go_ret
    exact ⟨ret_bool (decide_eq_false (fun e => HL.out (congrArg List.length e))).symm, Drawn0.refl _⟩

/-- Bounds that what comes in obeys. -/
def BStr (s : Str) : Prop := s.size ≤ 1048576
def BRow (r : List Str) : Prop := r.length ≤ 1048576 ∧ ∀ s ∈ r, BStr s
def BRows (l : List (List Str)) : Prop := l.length ≤ 1048576 ∧ ∀ r ∈ l, BRow r
def isFew (l : List (List Str)) : Prop := l.length ≤ 60 ∧ ∀ r ∈ l, r.length ≤ 60 ∧ ∀ s ∈ r, s.size ≤ 8000
theorem few_succ {l : List (List Str)} {k : Nat} (h : k < l.length) (h0 : ∀ r ∈ l.take k, r.length ≤ 60 ∧ ∀ s ∈ r, s.size ≤ 8000) (h1 : (nthR l k).length ≤ 60) (h2 : ∀ s ∈ nthR l k, s.size ≤ 8000) : ∀ r ∈ l.take (k + 1), r.length ≤ 60 ∧ ∀ s ∈ r, s.size ≤ 8000 := by
  rw [take_nth ([] : List Str) h]
  intro r hr
  rcases List.mem_append.1 hr with hr | hr
  · exact h0 r hr
  · rw [List.mem_singleton.1 hr]; exact ⟨h1, h2⟩
theorem few_str {l : List Str} {k : Nat} (h : k < l.length) (h0 : ∀ s ∈ l.take k, s.size ≤ 8000) (h1 : (nthS l k).size ≤ 8000) : ∀ s ∈ l.take (k + 1), s.size ≤ 8000 := by
  rw [take_nth (⟨#[]⟩ : Str) h]
  intro r hr
  rcases List.mem_append.1 hr with hr | hr
  · exact h0 r hr
  · rw [List.mem_singleton.1 hr]; exact h1
theorem mem_nth {α : Type} (d : α) {l : List α} {k : Nat} (h : k < l.length) : nth d l k ∈ l := by rw [nth_get d h]; exact List.getElem_mem h

set_option maxHeartbeats 400000 in
theorem Few_calls (w : World) (v : Value) (l : List (List Str)) (hv : Rd kRow w v l) (hB : BRows l) :
    Calls Tryd.prog 6 #[v] w fun e w' => (∃ b : Bool, e = .returned (.bool b) ∧ (b = true → isFew l)) ∧ Drawn0 w w' := by
  obtain ⟨A, c, rfl, hc, hr⟩ := hv
  have HR := Aside0.mk hr
  have HBB := Aside0.mk hB
  have hm := (Kd.C_max hr)
  clear hr hB
  by_cases h60 : (l.length : Int) > 60
  · go_enter Tryd.func6, Tryd.ntmps6
    go_wp2
    go_ret
    exact ⟨⟨false, rfl, fun h => by cases h⟩, by repeat (first | exact Drawn0.refl _ | apply Drawn0.step)⟩
  · have hb60 : decide ((l.length : Int) > 60) = false := decide_eq_false h60
    have hb60' : decide (60 < (l.length : Int)) = false := decide_eq_false h60
    go_enter Tryd.func6, Tryd.ntmps6
    go_wp2
    go_loopw [3, 4] (fun v3 v4 w' => ∃ (k n : Nat), v3 = .int .i64 n ∧ v4 = .int .i64 k ∧ n ≤ 8000 ∧ k ≤ l.length ∧ Aside0 (∀ r ∈ l.take k, r.length ≤ 60 ∧ ∀ s ∈ r, s.size ≤ 8000) ∧ Drawn0 w w') (fun _ v4 _ => l.length - (intOf v4).toNat)
    case atStart => exact ⟨0, 0, rfl, rfl, by omega, Nat.zero_le _, ⟨by simp⟩, by repeat (first | exact Drawn0.refl _ | apply Drawn0.step)⟩
    case round =>
      obtain ⟨k, n, rfl, rfl, hn, hk, HF, ⟨m, rfl⟩⟩ := hrel
      by_cases hlt : k < l.length
      · have q : (k : Int) < (l.length : Int) := by omega
        obtain ⟨ad, A0, c0, e, hx, hz, hy⟩ := C_row HR.out hlt
        cases e
        have HY := Aside0.mk hy
        have hm0 := Kd.C_max hy
        have HB0 := Aside0.mk (HBB.out.2 _ (mem_nth [] hlt))
        clear hy
        by_cases hr60 : ((nthR l k).length : Int) > 60
        · have hb : decide (60 < ((nthR l k).length : Int)) = true := decide_eq_true hr60
          go_wp2
          go_ret
          exact ⟨⟨false, rfl, fun h => by cases h⟩, by repeat (first | exact Drawn0.refl _ | apply Drawn0.step)⟩
        · have hb : decide (60 < ((nthR l k).length : Int)) = false := decide_eq_false hr60
          go_wp2
          go_loopw [3, 5] (fun v3 v5 w' => ∃ (j n : Nat), v3 = .int .i64 n ∧ v5 = .int .i64 j ∧ n ≤ 8000 ∧ j ≤ (nthR l k).length ∧ Aside0 (∀ s ∈ (nthR l k).take j, s.size ≤ 8000) ∧ Drawn0 w w') (fun _ v5 _ => (nthR l k).length - (intOf v5).toNat)
          case atStart => exact ⟨0, n, rfl, rfl, hn, Nat.zero_le _, ⟨by simp⟩, by repeat (first | exact Drawn0.refl _ | apply Drawn0.step)⟩
          case round =>
            obtain ⟨j, n, rfl, rfl, hn, hj, HF0, ⟨m, rfl⟩⟩ := hrel
            by_cases hjt : j < (nthR l k).length
            · have q1 : (j : Int) < ((nthR l k).length : Int) := by omega
              obtain ⟨a0, e, hx0⟩ := C_str HY.out hjt
              cases e
              have hbs : (nthS (nthR l k) j).size ≤ 1048576 := HB0.out.2 _ (mem_nth _ hjt)
              by_cases h8 : ((n : Int) + ((nthS (nthR l k) j).size : Int) + 1) > 8000
              · have hb8 : decide (8000 < ((n : Int) + ((nthS (nthR l k) j).size : Int) + 1)) = true := decide_eq_true h8
                go_wp2
                go_ret
                exact ⟨⟨false, rfl, fun h => by cases h⟩, by repeat (first | exact Drawn0.refl _ | apply Drawn0.step)⟩
              · have hb8 : decide (8000 < ((n : Int) + ((nthS (nthR l k) j).size : Int) + 1)) = false := decide_eq_false h8
                go_wp2
                go_roundw
                case measure => simp [intOf]; omega
                case rel => exact ⟨j + 1, n + (nthS (nthR l k) j).size + 1, by go_num, by go_num, by omega, by omega, ⟨few_str hjt HF0.out (by omega)⟩, by repeat (first | exact Drawn0.refl _ | apply Drawn0.step)⟩
            · go_wp2
              go_roundw
              case measure => simp [intOf]; omega
              case rel => exact ⟨k + 1, n, rfl, by go_num, hn, by omega, ⟨few_succ hlt HF.out (by omega) (by have h := HF0.out; rwa [take_all (by omega)] at h)⟩, by repeat (first | exact Drawn0.refl _ | apply Drawn0.step)⟩
      · go_wp2
        go_ret
        exact ⟨⟨true, rfl, fun _ => ⟨by omega, by have h := HF.out; rwa [take_all (by omega)] at h⟩⟩, by repeat (first | exact Drawn0.refl _ | apply Drawn0.step)⟩
end Go.Proofs.YthgjjfgedcaogaaDoor
