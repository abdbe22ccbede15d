/- Words for memory that all walks of this seat use: what a value reads as. -/
import Derived.Test.YthgjjfgedcaogaaDoorProg
import Derived.Test.YthgjjfgedcaogaaDoorWMore
import Derived.WalkLawsBesides
import Derived.WalkSpells
import Derived.Lib.Hide
namespace Go.Proofs.YthgjjfgedcaogaaDoor
open Go.RowKit Go.Proofs.YthgjjfgedcaogaaDoorW.PrintWords Go.Proofs.YthgjjfgedcaogaaDoorW.PrintLast Go.Proofs.YthgjjfgedcaogaaDoorW.PrintMore

/-- A slice value that reads as a list. -/
def Rd {α : Type} (d : Kd α) (w : World) (v : Value) (l : List α) : Prop := ∃ A c, v = .slice A l.length c ∧ l.length ≤ c ∧ d.C w A l.length l
theorem Rd.below {α : Type} {d : Kd α} {w w' : World} {v : Value} {l : List α} (h : Rd d w v l) (hb : Below w.heap.size w w') : Rd d w' v l := by
  obtain ⟨A, c, rfl, hc, h⟩ := h
  exact ⟨A, c, rfl, hc, Kd.C_below h hb⟩
theorem Rd.nil {α : Type} (d : Kd α) (w : World) : Rd d w (.slice none 0 0) ([] : List α) := ⟨none, 0, rfl, Nat.le_refl _, Kd.C_nil d w⟩
theorem Rd.of_R {α : Type} {d : Kd α} {e base : Nat} {ok : Nat → Prop} {w : World} {v : Value} {l : List α} (h : d.R e w base ok v l) : Rd d w v l := Kd.R_reads h

abbrev Str := ByteArray
abbrev kStr : Kd Str := Kd.string
abbrev kRow : Kd (List Str) := Kd.slice 9 Kd.string

/-- A table: its head and its rows. -/
structure Tab where
  head : List Str
  rows : List (List Str)
def RdT (w : World) (v : Value) (t : Tab) : Prop := ∃ v0 v1, v = .agg #[v0, v1] ∧ Rd kStr w v0 t.head ∧ Rd kRow w v1 t.rows
theorem RdT.below {w w' : World} {v : Value} {t : Tab} (h : RdT w v t) (hb : Below w.heap.size w w') : RdT w' v t := by
  obtain ⟨v0, v1, rfl, h0, h1⟩ := h
  exact ⟨v0, v1, rfl, h0.below hb, h1.below hb⟩

theorem ret_bool {a b : Bool} (h : a = b) : Ending.returned (.bool a) = .returned (.bool b) := by rw [h]
theorem ret_int {k : IntKind} {a b : Int} (h : a = b) : Ending.returned (.int k a) = .returned (.int k b) := by rw [h]
theorem ret_str {a b : ByteArray} (h : a = b) : Ending.returned (.string a) = .returned (.string b) := by rw [h]
theorem str_ext {a b : Str} (h : a.toList = b.toList) : a = b := by
  rw [ByteArray.toList_eq, ByteArray.toList_eq] at h
  cases a; cases b
  simpa using h
theorem str_beq (a b : Str) : (a.toList == b.toList) = decide (a = b) := by
  by_cases h : a = b
  · simp [h]
  · rw [decide_eq_false h, beq_eq_false_iff_ne]; exact fun e => h (str_ext e)
theorem str_bne (a b : Str) : (a.toList != b.toList) = !decide (a = b) := by rw [bne, str_beq]
theorem str_eqB {a b : Str} (h : a = b) : (a.toList == b.toList) = true ∧ (a.toList != b.toList) = false := by rw [str_beq, str_bne]; simp [h]
theorem str_neB {a b : Str} (h : a ≠ b) : (a.toList == b.toList) = false ∧ (a.toList != b.toList) = true := by rw [str_beq, str_bne]; simp [h]

/-- The k-th of a list; a plain def, so that the walk lets it stand. -/
def nth {α : Type} (d : α) (l : List α) (k : Nat) : α := l.getD k d
abbrev nthS (l : List Str) (k : Nat) : Str := nth (⟨#[]⟩ : Str) l k
abbrev nthR (l : List (List Str)) (k : Nat) : List Str := nth ([] : List Str) l k
theorem nth_get {α : Type} (d : α) {l : List α} {k : Nat} (h : k < l.length) : nth d l k = l[k] := by simp [nth, List.getD_eq_getElem?_getD, h]
theorem nth_some {α : Type} (d : α) {l : List α} {k : Nat} (h : k < l.length) : l[k]? = some (nth d l k) := by rw [nth_get d h]; exact List.getElem?_eq_getElem h
theorem take_nth {α : Type} (d : α) {l : List α} {k : Nat} (h : k < l.length) : l.take (k + 1) = l.take k ++ [nth d l k] := by rw [nth_get d h]; exact List.take_succ_eq_append_getElem h
theorem take_all {α : Type} {l : List α} {k : Nat} (h : l.length ≤ k) : l.take k = l := List.take_of_length_le h
theorem C_nth {α : Type} (z : α) {d : Kd α} {w : World} {A : Option Addr} {l : List α} (h : d.C w A l.length l) {k : Nat} (hk : k < l.length) :
    ∃ ad c, A = some ad ∧ d.K w (nth z l k) c ∧ ∀ j u, c[j]? = some u → w.cell? (ad.add (k * d.sz + j)) = some u := by
  obtain ⟨ad, c, e, _, hK, hc⟩ := Kd.C_get h z (k : Int) (by omega) (by omega)
  exact ⟨ad, c, e, by simpa [nth] using hK, by simpa using hc⟩
theorem C_str {w : World} {A : Option Addr} {l : List Str} (h : kStr.C w A l.length l) {k : Nat} (hk : k < l.length) :
    ∃ ad, A = some ad ∧ w.cell? (ad.add k) = some (.string (nthS l k)) := by
  obtain ⟨ad, c, e, hK, hc⟩ := C_nth (⟨#[]⟩ : Str) h hk
  obtain rfl := hK
  exact ⟨ad, e, by have := hc 0 _ rfl; rwa [show k * kStr.sz + 0 = k from by simp [kStr, Kd.string, Kd.scalar]] at this⟩
theorem C_row {w : World} {A : Option Addr} {l : List (List Str)} (h : kRow.C w A l.length l) {k : Nat} (hk : k < l.length) :
    ∃ ad A0 c0, A = some ad ∧ w.cell? (ad.add k) = some (.slice A0 (nthR l k).length c0) ∧ (nthR l k).length ≤ c0 ∧ kStr.C w A0 (nthR l k).length (nthR l k) := by
  obtain ⟨ad, c, e, ⟨A0, c0, rfl, h1, h2⟩, hc⟩ := C_nth ([] : List Str) h hk
  exact ⟨ad, A0, c0, e, by have := hc 0 _ rfl; rwa [show k * kRow.sz + 0 = k from by simp [kRow, Kd.slice]] at this, h1, h2⟩

theorem infoStr : (Tryd.prog.info? 9).map (fun i => (i.zero, i.size, i.bytes)) = some (some (.string ⟨#[]⟩), 1, 16) := by kernel_rfl
theorem infoRow : (Tryd.prog.info? 32).map (fun i => (i.zero, i.size, i.bytes)) = some (some (.slice none 0 0), 1, 24) := by kernel_rfl

theorem below1 (w : World) (o : Obj) : Below w.heap.size w (w.alloc o) := (Below.refl _ _).alloc (Nat.le_refl _) o
theorem alloc_at (w : World) (o : Obj) {g : Nat} (h : g = w.heap.size) : (w.alloc o).heap[g]? = some o := by subst h; exact heap_alloc_new w o
/-- A literal of what was made before it. -/
theorem R_lits {α : Type} (d : Kd α) {W : World} {base : Nat} {e : TypeId} {xs : List α} {inner : List Value} (hb : base ≤ W.heap.size) (hr : Reps (d.M W base (fun _ => True)) d.sz xs inner) (hm : xs.length ≤ 9223372036854775807) :
    d.R e (W.alloc (.cells inner.toArray e)) base (fun _ => True) (.slice (some ⟨W.heap.size, 0, none⟩) xs.length xs.length) xs := by
  refine ⟨fun _ _ => trivial, inner, by simpa using World.ownsRow_lit (e := e) (size := d.sz) W inner.toArray xs.length hb (by simpa [maxLen] using hm) (by simp [hr.1]), hr.imp_ fun p c hp => ?_⟩
  refine d.M_mono (fun k hk => ⟨trivial, ?_⟩) (d.M_bound (Kd.M_below (d.M_bound hp) (below1 W _)))
  have h1 := hk.1.2.2.1
  simp only [Value.ownBlock, ne_eq, Option.some.injEq]
  omega
theorem reps_single {α : Type} {R : α → List Value → Prop} {size : Nat} {x : α} {cs : List Value} (h : R x cs) (hl : cs.length = size) : Reps R size [x] cs := by
  have := (Reps.none R size).snoc h hl
  simpa using this
theorem below_trans {w w1 w2 : World} (h : Below w.heap.size w w1) (k : Below w1.heap.size w1 w2) : Below w.heap.size w w2 := h.trans (k.mono h.size)

/-- The empty literal. -/
theorem R_empty {α : Type} (d : Kd α) (w : World) (e : TypeId) : d.R e (w.alloc (.cells #[] e)) w.heap.size (fun _ => True) (.slice (some ⟨w.heap.size, 0, none⟩) 0 0) ([] : List α) :=
  ⟨fun _ _ => trivial, [], by simpa using World.ownsRow_lit (e := e) (size := d.sz) w #[] 0 (Nat.le_refl _) (by simp) (by simp), Reps.none _ _⟩
end Go.Proofs.YthgjjfgedcaogaaDoor
