/- Rows of strings of the call's own, each row in a block that no other row lies in: a cell may be written. -/
import Derived.Test.YthgjjfgedcaogaaDoorCloneStr
import Derived.Test.YthgjjfgedcaogaaDoorHeldIn
import Derived.Test.YthgjjfgedcaogaaDoorWQPut
namespace Go.Proofs.YthgjjfgedcaogaaDoor
open Go.RowKit Go.Proofs.YthgjjfgedcaogaaDoorW.PrintWords Go.Proofs.YthgjjfgedcaogaaDoorW.PrintLast Go.Proofs.YthgjjfgedcaogaaDoorW.PrintMore

def Grid (w : World) (base : Nat) (v : Value) (rows : List (List Str)) : Prop :=
  ∃ vs : List Value, w.ownsRow base 32 1 v rows.length vs ∧ (∀ i u, vs[i]? = some u → kStr.R 9 w base (fun _ => True) u (nthR rows i)) ∧
    ∀ (i j : Nat) (u u' : Value) (b : Nat), i ≠ j → vs[i]? = some u → vs[j]? = some u' → u.ownBlock = some b → u'.ownBlock ≠ some b
theorem Grid.nil (w : World) (base : Nat) : Grid w base (.slice none 0 0) [] := ⟨[], own_nil _ _ _ _, by simp, by simp⟩
theorem Grid.slice {w : World} {base : Nat} {v : Value} {rows : List (List Str)} (h : Grid w base v rows) : ∃ A c, v = .slice A rows.length c := by
  obtain ⟨vs, ho, _⟩ := h
  exact own_slice ho
theorem Grid.move {w w' : World} {base : Nat} {v : Value} {rows : List (List Str)} (h : Grid w base v rows) (hb : ∀ k, base ≤ k → k < w.heap.size → (∃ t cs, w.heap[k]? = some (.cells cs t (0, 0)) ∧ (t = 9 ∨ t = 32)) → w'.heap[k]? = w.heap[k]?) : Grid w' base v rows := by
  obtain ⟨vs, ho, hr, hs⟩ := h
  refine ⟨vs, own_move ho (fun k hk => hb k (own_base ho k hk) (own_lt ho k hk) ?_), fun i u hu => ?_, hs⟩
  · obtain ⟨cells, hc⟩ := own_typed ho k hk
    exact ⟨_, cells, hc, .inr rfl⟩
  · refine Kd.R_mono (Kd.R_step (Kd.R_bound (hr i u hu)) (fun k hk hlt => ?_)) (fun _ hk => hk.1)
    obtain ⟨_, h1, _, q, hq, cells, hc⟩ := hk
    refine hb k h1 hlt ⟨q, cells, hc, ?_⟩
    simp [kStr, Kd.string, Kd.scalar] at hq
    exact .inl hq
theorem Grid.below {w w' : World} {base : Nat} {v : Value} {rows : List (List Str)} (h : Grid w base v rows) (hb : Below w.heap.size w w') : Grid w' base v rows :=
  h.move fun k _ hk _ => hb.block k hk
theorem Grid.set {w : World} {base g t : Nat} {v : Value} {rows : List (List Str)} (h : Grid w base v rows) {cells : Array Value} (hg : w.heap[g]? = some (.cells cells t (0, 0))) (h1 : t ≠ 9) (h2 : t ≠ 32) (j : Nat) (u : Value) : Grid (w.setCell ⟨g, j, none⟩ u) base v rows :=
  h.move fun k _ _ ⟨t', cs, hc, ht⟩ => Below.heap_setCell w ⟨g, j, none⟩ u k (by
    rintro rfl
    rw [hg] at hc
    cases hc
    rcases ht with ht | ht
    · exact h1 ht
    · exact h2 ht)
theorem Grid.push {W w1 w2 : World} {base : Nat} {v v' v2 : Value} {rows : List (List Str)} {r : List Str} {vs : List Value} (hbase : base ≤ W.heap.size)
    (ho : W.ownsRow base 32 1 v rows.length vs) (hr : ∀ i u, vs[i]? = some u → kStr.R 9 W base (fun _ => True) u (nthR rows i))
    (hs : ∀ (i j : Nat) (u u' : Value) (b : Nat), i ≠ j → vs[i]? = some u → vs[j]? = some u' → u.ownBlock = some b → u'.ownBlock ≠ some b)
    (hn : kStr.R 9 w1 W.heap.size (fun _ => True) v' r) (hb : Below W.heap.size W w1) (hown : w2.ownsRow base 32 1 v2 (rows.length + 1) (vs ++ [v'])) (hg : w1.grownBy w2 v.ownBlock) : Grid w2 base v2 (rows ++ [r]) := by
  have hl : vs.length = rows.length := by simpa using ho.1
  have step : ∀ {b : Nat} {u : Value} {x : List Str}, kStr.R 9 w1 b (fun _ => True) u x → kStr.R 9 w2 b (fun _ => True) u x := by
    intro b u x hx
    cases hv : v.ownBlock with
    | none => rw [hv] at hg; exact Kd.R_grown hx hg (fun _ _ => by simp)
    | some g =>
      obtain ⟨cells, hc⟩ := own_typed ho g hv
      have h1 := Kd.R_types hx (blk_below hc hb) (by decide)
      rw [hv] at hg
      exact Kd.R_mono (Kd.R_grown h1 hg (fun k hk => by simpa using hk.2)) (fun _ hk => hk.1)
  have lower : ∀ {u : Value} {x : List Str}, kStr.R 9 w2 W.heap.size (fun _ => True) u x → kStr.R 9 w2 base (fun _ => True) u x := by
    rintro u x ⟨h0, inner, h1, h2⟩
    exact ⟨h0, inner, own_weaken h1 hbase, h2⟩
  refine ⟨vs ++ [v'], by simpa using hown, fun i u hu => ?_, ?_⟩
  · rcases Nat.lt_or_ge i vs.length with hi | hi
    · rw [List.getElem?_append_left hi] at hu
      have e : nthR (rows ++ [r]) i = nthR rows i := by simp [nthR, nth, List.getD_eq_getElem?_getD, List.getElem?_append_left (show i < rows.length by omega)]
      rw [e]
      exact step (Kd.R_below (hr i u hu) hb)
    · rw [List.getElem?_append_right hi] at hu
      have hi2 : i = vs.length := by
        have := (List.getElem?_eq_some_iff.1 hu).1
        simp at this
        omega
      subst hi2
      simp at hu
      subst hu
      have e : nthR (rows ++ [r]) vs.length = r := by simp [nthR, nth, List.getD_eq_getElem?_getD, hl]
      rw [e]
      exact lower (step hn)
  · have old : ∀ (i : Nat) (u : Value) (b : Nat), vs[i]? = some u → u.ownBlock = some b → b < W.heap.size := fun i u b hu hub => by
      obtain ⟨_, inner, h1, _⟩ := hr i u hu
      exact own_lt h1 b hub
    have new : ∀ b, v'.ownBlock = some b → W.heap.size ≤ b := fun b hub => by
      obtain ⟨_, inner, h1, _⟩ := hn
      exact own_base h1 b hub
    have at_ : ∀ i u, (vs ++ [v'])[i]? = some u → (i < vs.length ∧ vs[i]? = some u) ∨ (i = vs.length ∧ u = v') := by
      intro i u hu
      rcases Nat.lt_or_ge i vs.length with hi | hi
      · exact .inl ⟨hi, by rwa [List.getElem?_append_left hi] at hu⟩
      · rw [List.getElem?_append_right hi] at hu
        have h1 := (List.getElem?_eq_some_iff.1 hu).1
        simp at h1
        have : i = vs.length := by omega
        subst this
        simp at hu
        exact .inr ⟨rfl, hu.symm⟩
    intro i j u u' b hij hu hu' hub hub'
    rcases at_ i u hu with ⟨h1, h2⟩ | ⟨h1, rfl⟩ <;> rcases at_ j u' hu' with ⟨h3, h4⟩ | ⟨h3, rfl⟩
    · exact hs i j u u' b hij h2 h4 hub hub'
    · have := old i u b h2 hub; have := new b hub'; omega
    · have := old j u' b h4 hub'; have := new b hub; omega
    · omega
theorem Grid.read {w : World} {base : Nat} {v : Value} {rows : List (List Str)} (h : Grid w base v rows) : Rd kRow w v rows := by
  obtain ⟨vs, ho, hr, _⟩ := h
  have hl : vs.length = rows.length := by simpa using ho.1
  refine Rd.of_R (d := kRow) (e := 32) (base := base) (ok := fun k => True) ⟨fun _ _ => trivial, vs, ho, by show vs.length = rows.length * 1; simpa using ho.1, fun j p hp => ?_⟩
  have hj : j < rows.length := (List.getElem?_eq_some_iff.1 hp).1
  have hu : vs[j]? = some vs[j] := List.getElem?_eq_getElem (by omega)
  have hR := hr j _ hu
  have e : nthR rows j = p := by simp [nthR, nth, List.getD_eq_getElem?_getD, hp]
  rw [e] at hR
  refine ⟨vs[j], ?_, ?_⟩
  · show List.take 1 (List.drop (j * 1) vs) = [vs[j]]
    rw [Nat.mul_one, List.drop_eq_getElem_cons (by omega)]
    rfl
  · refine Kd.R_mono (Kd.R_bound hR) fun k hk => ⟨trivial, ?_⟩
    obtain ⟨_, _, _, q, hq, cells, hc⟩ := hk
    intro ek
    obtain ⟨cells', hc'⟩ := own_typed ho k ek.symm
    rw [hc] at hc'
    cases hc'
    simp [Kd.string, Kd.scalar] at hq
/-- A cell, and how it is written. -/
theorem Grid.at {w : World} {base : Nat} {v : Value} {rows : List (List Str)} (h : Grid w base v rows) {i j : Nat} (hi : i < rows.length) (hj : j < (nthR rows i).length) :
    ∃ ad c ad0 c0, v = .slice (some ad) rows.length c ∧ w.cell? (ad.add i) = some (.slice (some ad0) (nthR rows i).length c0) ∧ w.cell? (ad0.add j) = some (.string (nthS (nthR rows i) j)) ∧ w.frozen? (ad0.add j) = false ∧ base ≤ (ad0.add j).block ∧
      ∀ s : Str, Grid (w.setCell (ad0.add j) (.string s)) base v (rows.set i ((nthR rows i).set j s)) := by
  obtain ⟨A, c, rfl, hc, hC⟩ := h.read
  obtain ⟨ad, A0, c0, e, hx, hz, hy⟩ := C_row hC hi
  cases e
  obtain ⟨ad0, e, hx0⟩ := C_str hy hj
  cases e
  obtain ⟨vs, ho, hr, hs⟩ := h
  have hl : vs.length = rows.length := by simpa using ho.1
  have hu : vs[i]? = some vs[i] := List.getElem?_eq_getElem (by omega)
  have hcell : vs[i] = .slice (some ad0) (nthR rows i).length c0 := by
    rcases ho.2 with ⟨h1, h2⟩ | ⟨g, cap, cur, e, hb, hcells, hn, hm, hsz, htake⟩
    · cases h1
    · cases e
      have h3 : w.cell? ((⟨g, 0, none⟩ : Addr).add i) = cur[i]? := by
        have : (⟨g, 0, none⟩ : Addr).add i = ⟨g, i, none⟩ := by rw [Addr.add_mid]; simp
        rw [this]
        exact cell_of_row w g i cur _ _ hcells
      rw [h3] at hx
      have h4 : vs[i]? = cur[i]? := by
        rw [← htake, List.getElem?_take_of_lt (by omega)]
        simp
      rw [h4, hx] at hu
      exact (Option.some.inj hu).symm
  have hRi := hr i _ hu
  rw [hcell] at hRi hu
  obtain ⟨_, inner, hown, _⟩ := id hRi
  rcases hown.2 with ⟨h1, h2⟩ | ⟨g, cap, cur, e, hb, hcells, hn, hm, hsz, htake⟩
  · cases h1
  cases e
  have hadd : (⟨g, 0, none⟩ : Addr).add j = ⟨g, j, none⟩ := by rw [Addr.add_mid]; simp
  refine ⟨_, _, _, _, rfl, hx, hx0, by rw [hadd]; exact blk_frozen hcells j, by rw [hadd]; exact hb, fun s => ?_⟩
  rw [hadd]
  refine ⟨vs, ?_, fun k u hk => ?_, hs⟩
  · rw [List.length_set]
    refine own_move ho (fun k hk => Below.heap_setCell w ⟨g, j, none⟩ _ k ?_)
    rintro rfl
    obtain ⟨cells, hc2⟩ := own_typed ho _ hk
    rw [hcells] at hc2
    cases hc2
  · by_cases hki : k = i
    · subst hki
      rw [hu] at hk
      cases hk
      have e : nthR (rows.set k ((nthR rows k).set j s)) k = (nthR rows k).set j s := by simp [nthR, nth, List.getD_eq_getElem?_getD, hi]
      rw [e]
      exact Kd.R_putn hRi (j : Int) s
    · have e : nthR (rows.set i ((nthR rows i).set j s)) k = nthR rows k := by simp [nthR, nth, List.getD_eq_getElem?_getD, List.getElem?_set_ne (Ne.symm hki)]
      rw [e]
      obtain ⟨_, h2⟩ := hr k u hk
      have hne : kStr.R 9 w base (fun b => b ≠ g) u (nthR rows k) := ⟨fun b hb2 => by
        rintro rfl
        exact hs i k _ u b (Ne.symm hki) hu hk rfl hb2, h2⟩
      exact Kd.R_mono (Kd.R_far (p := ⟨g, j, none⟩) hne (fun _ hk => hk) _) (fun _ _ => trivial)
end Go.Proofs.YthgjjfgedcaogaaDoor
