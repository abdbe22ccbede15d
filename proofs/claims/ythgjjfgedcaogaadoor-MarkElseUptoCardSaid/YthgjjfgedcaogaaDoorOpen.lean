/- Arguments that came in, opened: what each reads as, and how much it holds. -/
import Derived.Test.YthgjjfgedcaogaaDoorKinds
import Derived.Test.YthgjjfgedcaogaaDoorRows
import Derived.SliceStrings
import Derived.DataElems
namespace Go.Proofs.YthgjjfgedcaogaaDoor
open Go.ChangeShapes Go.WideShapes Go.RowKit Go.Proofs.YthgjjfgedcaogaaDoorW.PrintWords Go.Proofs.YthgjjfgedcaogaaDoorW.PrintLast Go.Proofs.YthgjjfgedcaogaaDoorW.PrintMore

/-- Whatever datum is read at type t: the cells read as some x, that weighs no more than the datum does. -/
def Opn {α : Type} (d : Kd α) (t : TypeId) (μ : α → Nat) (wf : α → Prop) : Prop :=
  ∀ (H : Type) (enc : TypeId × Value → H) (w : World) (spare : Nat → Bool) (held : Bool) (fuel : Nat) (cs : List Value) (x : DataW H × List MemPlace),
    DataW.trod enc Tryd.prog w 0 spare held fuel t cs = some x → ∃ a, d.K w a cs ∧ μ a ≤ Rows.uptoBulk x.1 ∧ wf a
theorem Opn.bool {t : TypeId} (ht : Tryd.prog.underlying t = some .bool) : Opn Kd.bool t (fun _ => 1) (fun _ => True) := by
  intro H enc w spare held fuel cs x hx
  obtain ⟨b, rfl, rfl⟩ := DataW.trod_bool ht hx
  exact ⟨b, rfl, by simp [Rows.uptoBulk], trivial⟩
theorem Opn.int {t : TypeId} {k : IntKind} (ht : Tryd.prog.underlying t = some (.int k)) : Opn (Kd.int k) t (fun _ => 1) (fun n => (Lit.int k n).wf = true) := by
  intro H enc w spare held fuel cs x hx
  obtain ⟨n, rfl, rfl, h⟩ := DataW.trod_int ht hx
  exact ⟨n, rfl, by simp [Rows.uptoBulk], h⟩
theorem Opn.string {t : TypeId} (ht : Tryd.prog.underlying t = some .string) : Opn Kd.string t (fun s => s.size + 1) (fun _ => True) := by
  intro H enc w spare held fuel cs x hx
  obtain ⟨s, rfl, rfl, h⟩ := DataW.trod_string ht hx
  exact ⟨s, rfl, by simp only [Rows.uptoBulk]; rw [Array.length_toList]; exact Nat.le_refl _, trivial⟩
theorem Opn.iso {α β : Type} {d : Kd α} {t : TypeId} {μ : α → Nat} {wf : α → Prop} (h : Opn d t μ wf) (f : β → α) (g : α → β) (hg : ∀ a, f (g a) = a) : Opn (Kd.iso d f) t (fun b => μ (f b)) (fun b => wf (f b)) := by
  intro H enc w spare held fuel cs x hx
  obtain ⟨a, h1, h2, h3⟩ := h H enc w spare held fuel cs x hx
  exact ⟨g a, by show d.K w (f (g a)) cs; rw [hg]; exact h1, by show μ (f (g a)) ≤ _; rw [hg]; exact h2, by show wf (f (g a)); rw [hg]; exact h3⟩
theorem sum_le {α H : Type} (μ : α → Nat) : ∀ (l : List α) (es : List (DataW H × List MemPlace)), l.length = es.length → (∀ (i : Nat) x y, l[i]? = some x → es[i]? = some y → μ x ≤ Rows.uptoBulk y.1) → (l.map μ).sum ≤ Rows.uptoBulkAll (es.map (·.1))
  | [], [], _, _ => by simp [Rows.uptoBulkAll]
  | x :: l, y :: es, h, hh => by
    have h1 := sum_le μ l es (by simpa using h) (fun i x y hx hy => hh (i + 1) x y (by simpa using hx) (by simpa using hy))
    have h2 := hh 0 x y rfl rfl
    simp only [List.map_cons, List.sum_cons, Rows.uptoBulkAll]
    omega
  | [], _ :: _, h, _ => by simp at h
  | _ :: _, [], h, _ => by simp at h
theorem cells?_at {w : World} {base : Nat} {a : Addr} {n : Nat} {cs : List Value} (h : w.cells? base a n = some cs) : ∀ i u, cs[i]? = some u → w.cell? (a.add i) = some u := by
  intro i u hu
  unfold World.cells? at h
  split at h
  · have hl : cs.length = n := by simpa using mapM_some_length h
    have hi : i < n := by rw [← hl]; exact (List.getElem?_eq_some_iff.1 hu).1
    rw [mapM_some_get h i i (by simp [hi]), hu]
  · cases h
theorem Opn.slice {α : Type} {d : Kd α} {t e : TypeId} {μ : α → Nat} {wf : α → Prop} (h : Opn d e μ wf) (e' : Nat) (ht : Tryd.prog.underlying t = some (.slice e)) (hc : Tryd.prog.cellsOf e = d.sz) : Opn (Kd.slice e' d) t (fun l => (l.map μ).sum + 1) (fun l => ∀ x ∈ l, wf x) := by
  intro H enc w spare held fuel cs x hx
  rcases DataW.trod_slice ht hx with ⟨rfl, rfl⟩ | ⟨a, len, cap, elems, rest, n, rfl, rfl, rfl, hb, hl, hm, hlen, hel, hsp, hns⟩
  · exact ⟨[], ⟨none, 0, rfl, Nat.le_refl _, Kd.C_nil d w⟩, by simp [Rows.uptoBulk], by simp⟩
  · have each : ∀ i : Fin len, ∃ x, ∃ cs, w.cells? 0 (a.add (i.1 * d.sz)) d.sz = some cs ∧ d.K w x cs ∧ (∀ y, elems[i.1]? = some y → μ x ≤ Rows.uptoBulk y.1) ∧ wf x := by
      intro i
      have h1 := hel i.1 i.2
      rw [List.getElem?_eq_getElem (by omega), Option.bind_eq_some_iff] at h1
      obtain ⟨cs, h2, h3⟩ := h1
      obtain ⟨x, h4, h5, h6⟩ := h H enc w spare held n cs _ h3
      exact ⟨x, cs, by rw [← hc]; exact h2, h4, fun y hy => by rw [List.getElem?_eq_getElem (by omega)] at hy; cases hy; exact h5, h6⟩
    have at_ : ∀ i x, (List.ofFn fun i : Fin len => Classical.choose (each i))[i]? = some x → ∃ cs, w.cells? 0 (a.add (i * d.sz)) d.sz = some cs ∧ d.K w x cs ∧ (∀ y, elems[i]? = some y → μ x ≤ Rows.uptoBulk y.1) ∧ wf x := by
      intro i x hx
      have hi : i < len := by simpa using (List.getElem?_eq_some_iff.1 hx).1
      rw [List.getElem?_eq_getElem (by simpa using hi)] at hx
      simp only [List.getElem_ofFn, Option.some.injEq] at hx
      subst hx
      exact Classical.choose_spec (each ⟨i, hi⟩)
    refine ⟨List.ofFn fun i : Fin len => Classical.choose (each i), ⟨some a, cap, by simp, by simpa using hl, rfl, by simp; unfold maxLen at hm; omega, fun _ => ⟨a, rfl, fun j p hp => ?_⟩⟩, ?_, fun x hx => ?_⟩
    · obtain ⟨cs, h1, h2, _, _⟩ := at_ j p hp
      refine ⟨cs, d.K_len h2, h2, fun i u hu => ?_⟩
      rw [← Addr.add_add]
      exact cells?_at h1 i u hu
    · have := sum_le μ (List.ofFn fun i : Fin len => Classical.choose (each i)) elems (by simp [hlen]) (fun i x y hx hy => (at_ i x hx).choose_spec.2.2.1 y hy)
      simp only [Rows.uptoBulk]
      omega
    · obtain ⟨i, hi⟩ := List.getElem?_of_mem hx
      exact (at_ i x hi).choose_spec.2.2.2

/-- Fields from an offset on. -/
def OpnF {α : Type} (fs : List Field) (off : Nat) (d : Kd α) (μ : α → Nat) (wf : α → Prop) : Prop :=
  ∀ (H : Type) (enc : TypeId × Value → H) (w : World) (spare : Nat → Bool) (held : Bool) (n : Nat) (cs : List Value) (xs : List (DataW H × List MemPlace)), xs.length = fs.length →
    (∀ (i : Nat) f, fs[i]? = some f → DataW.trod enc Tryd.prog w 0 spare held n f.type ((cs.drop f.offset).take (Tryd.prog.cellsOf f.type)) = xs[i]?) →
    ∃ a, d.K w a ((cs.drop off).take d.sz) ∧ μ a ≤ Rows.uptoBulkAll (xs.map (·.1)) ∧ wf a
theorem OpnF.one {α : Type} {d : Kd α} {f : Field} {off : Nat} {μ : α → Nat} {wf : α → Prop} (h : Opn d f.type μ wf) (ho : f.offset = off) (hc : Tryd.prog.cellsOf f.type = d.sz) : OpnF [f] off d μ wf := by
  intro H enc w spare held n cs xs hl hx
  match xs, hl with
  | [y], _ =>
    have h0 := hx 0 f rfl
    obtain ⟨a, h1, h2, h3⟩ := h H enc w spare held n _ y h0
    rw [ho, hc] at h1
    exact ⟨a, h1, by simpa [Rows.uptoBulkAll] using h2, h3⟩
theorem OpnF.cons {α β : Type} {d : Kd α} {d' : Kd β} {f : Field} {fs : List Field} {off : Nat} {μ : α → Nat} {wf : α → Prop} {μ' : β → Nat} {wf' : β → Prop} (h : Opn d f.type μ wf) (ho : f.offset = off) (hc : Tryd.prog.cellsOf f.type = d.sz) (h' : OpnF fs (off + d.sz) d' μ' wf') :
    OpnF (f :: fs) off (Kd.pair d d') (fun x => μ x.1 + μ' x.2) (fun x => wf x.1 ∧ wf' x.2) := by
  intro H enc w spare held n cs xs hl hx
  match xs, hl with
  | y :: xs, hl =>
    have h0 := hx 0 f rfl
    obtain ⟨a, h1, h2, h3⟩ := h H enc w spare held n _ y h0
    rw [ho, hc] at h1
    obtain ⟨b, h4, h5, h6⟩ := h' H enc w spare held n cs xs (by simpa using hl) (fun i f hf => by simpa using hx (i + 1) f (by simpa using hf))
    refine ⟨(a, b), ⟨_, _, ?_, h1, h4⟩, ?_, h3, h6⟩
    · show List.take (d.sz + d'.sz) (List.drop off cs) = _
      rw [List.take_add, List.drop_drop]
    · simp only [List.map_cons, Rows.uptoBulkAll]
      omega
theorem OpnF.struct {α : Type} {d : Kd α} {t : TypeId} {fs : Array Field} {μ : α → Nat} {wf : α → Prop} (h : OpnF fs.toList 0 d μ wf) (ht : Tryd.prog.underlying t = some (.struct fs)) (hc : Tryd.prog.cellsOf t = d.sz) : Opn d t (fun x => μ x + 1) wf := by
  intro H enc w spare held fuel cs x hx
  obtain ⟨xs, n, rfl, rfl, hl, hlen, hf⟩ := DataW.trod_struct ht hx
  obtain ⟨a, h1, h2, h3⟩ := h H enc w spare held n cs xs (by simpa using hlen) (fun i f hf' => hf i f (by simpa using hf'))
  refine ⟨a, ?_, by simp only [Rows.uptoBulk]; omega, h3⟩
  rw [List.drop_zero, List.take_of_length_le (by omega)] at h1
  exact h1
theorem le_sum {α : Type} (μ : α → Nat) {l : List α} {x : α} (h : x ∈ l) : μ x ≤ (l.map μ).sum := by
  induction l with
  | nil => cases h
  | cons y r ih =>
    simp only [List.map_cons, List.sum_cons]
    rcases List.mem_cons.1 h with rfl | h
    · omega
    · have := ih h; omega
theorem length_le_sum {α : Type} (μ : α → Nat) (h1 : ∀ x, 1 ≤ μ x) (l : List α) : l.length ≤ (l.map μ).sum := by
  induction l with
  | nil => simp
  | cons y r ih =>
    simp only [List.map_cons, List.sum_cons, List.length_cons]
    have := h1 y
    omega
theorem bulk_le {H : Type} {l : List (DataW H)} (hk : Rows.uptoSmall H l = true) : Rows.uptoBulkAll l ≤ 1048576 := of_decide_eq_true hk
end Go.Proofs.YthgjjfgedcaogaaDoor
