/- The structs of package api: their kinds, and what a slice of them reads as. -/
import Derived.Test.YthgjjfgedcaogaaDoorBase
namespace Go.Proofs.YthgjjfgedcaogaaDoor
open Go.RowKit Go.Proofs.YthgjjfgedcaogaaDoorW.PrintWords Go.Proofs.YthgjjfgedcaogaaDoorW.PrintLast Go.Proofs.YthgjjfgedcaogaaDoorW.PrintMore
structure Pair where
  a : Int
  b : Int
  deriving DecidableEq
def zPair : Pair := ⟨0, 0⟩
def kPair : Kd Pair := Kd.iso (Kd.pair (Kd.int .i64) (Kd.int .i64)) (fun x : Pair => (x.a, x.b))
theorem kPair_open {w : World} {x : Pair} {cs : List Value} (h : kPair.K w x cs) : cs = [.int .i64 x.a, .int .i64 x.b] := by
  obtain ⟨_, _, rfl, rfl, rfl⟩ := h
  rfl
theorem kPair_mk (w : World) (base : Nat) (ok : Nat → Prop) (x : Pair) : kPair.M w base ok x [.int .i64 x.a, .int .i64 x.b] := ⟨[.int .i64 x.a], [.int .i64 x.b], rfl, rfl, rfl⟩
theorem C_Pair {w : World} {A : Option Addr} {l : List Pair} (h : kPair.C w A l.length l) {k : Nat} (hk : k < l.length) :
    ∃ ad , A = some ad ∧ w.cell? (ad.add (k * 2)) = some (.int .i64 (nth zPair l k).a) ∧ w.cell? ⟨(ad.add (k * 2)).block, (ad.add (k * 2)).off + 1, none⟩ = some (.int .i64 (nth zPair l k).b) := by
  obtain ⟨ad, c, e, hK, hc0⟩ := C_nth zPair h hk
  have hc : ∀ j u, c[j]? = some u → w.cell? (ad.add (k * 2 + j)) = some u := hc0
  obtain rfl := kPair_open hK
  exact ⟨ad, e, hc 0 _ rfl, by rw [← add_field _ _ 1 (by omega)]; exact hc 1 _ rfl⟩
structure Scored where
  a : Int
  b : Int
  score : Int
  deriving DecidableEq
def zScored : Scored := ⟨0, 0, 0⟩
def kScored : Kd Scored := Kd.iso (Kd.pair (Kd.int .i64) (Kd.pair (Kd.int .i64) (Kd.int .i64))) (fun x : Scored => (x.a, x.b, x.score))
theorem kScored_open {w : World} {x : Scored} {cs : List Value} (h : kScored.K w x cs) : cs = [.int .i64 x.a, .int .i64 x.b, .int .i64 x.score] := by
  obtain ⟨_, _, rfl, rfl, ⟨_, _, rfl, rfl, rfl⟩⟩ := h
  rfl
theorem kScored_mk (w : World) (base : Nat) (ok : Nat → Prop) (x : Scored) : kScored.M w base ok x [.int .i64 x.a, .int .i64 x.b, .int .i64 x.score] := ⟨[.int .i64 x.a], [.int .i64 x.b, .int .i64 x.score], rfl, rfl, ⟨[.int .i64 x.b], [.int .i64 x.score], rfl, rfl, rfl⟩⟩
theorem C_Scored {w : World} {A : Option Addr} {l : List Scored} (h : kScored.C w A l.length l) {k : Nat} (hk : k < l.length) :
    ∃ ad , A = some ad ∧ w.cell? (ad.add (k * 3)) = some (.int .i64 (nth zScored l k).a) ∧ w.cell? ⟨(ad.add (k * 3)).block, (ad.add (k * 3)).off + 1, none⟩ = some (.int .i64 (nth zScored l k).b) ∧ w.cell? ⟨(ad.add (k * 3)).block, (ad.add (k * 3)).off + 2, none⟩ = some (.int .i64 (nth zScored l k).score) := by
  obtain ⟨ad, c, e, hK, hc0⟩ := C_nth zScored h hk
  have hc : ∀ j u, c[j]? = some u → w.cell? (ad.add (k * 3 + j)) = some u := hc0
  obtain rfl := kScored_open hK
  exact ⟨ad, e, hc 0 _ rfl, by rw [← add_field _ _ 1 (by omega)]; exact hc 1 _ rfl, by rw [← add_field _ _ 2 (by omega)]; exact hc 2 _ rfl⟩
structure Line where
  at_ : Int
  cells : List Str
  deriving DecidableEq
def zLine : Line := ⟨0, []⟩
def kLine : Kd Line := Kd.iso (Kd.pair (Kd.int .i64) (Kd.slice 9 Kd.string)) (fun x : Line => (x.at_, x.cells))
theorem kLine_open {w : World} {x : Line} {cs : List Value} (h : kLine.K w x cs) : ∃ A_cells c_cells, cs = [.int .i64 x.at_, (.slice A_cells x.cells.length c_cells)] ∧ x.cells.length ≤ c_cells ∧ kStr.C w A_cells x.cells.length x.cells := by
  obtain ⟨_, _, rfl, rfl, ⟨A_cells, c_cells, rfl, hl_cells, hr_cells⟩⟩ := h
  exact ⟨A_cells, c_cells, rfl, hl_cells, hr_cells⟩
theorem kLine_mk (w : World) (base : Nat) (ok : Nat → Prop) (x : Line) {v_cells : Value} (h_cells : kStr.R 9 w base ok v_cells x.cells) : kLine.M w base ok x [.int .i64 x.at_, v_cells] := ⟨[.int .i64 x.at_], [v_cells], rfl, rfl, ⟨v_cells, rfl, h_cells⟩⟩
theorem C_Line {w : World} {A : Option Addr} {l : List Line} (h : kLine.C w A l.length l) {k : Nat} (hk : k < l.length) :
    ∃ ad A_cells c_cells, A = some ad ∧ w.cell? (ad.add (k * 2)) = some (.int .i64 (nth zLine l k).at_) ∧ w.cell? ⟨(ad.add (k * 2)).block, (ad.add (k * 2)).off + 1, none⟩ = some (.slice A_cells (nth zLine l k).cells.length c_cells) ∧ (nth zLine l k).cells.length ≤ c_cells ∧ kStr.C w A_cells (nth zLine l k).cells.length (nth zLine l k).cells := by
  obtain ⟨ad, c, e, hK, hc0⟩ := C_nth zLine h hk
  have hc : ∀ j u, c[j]? = some u → w.cell? (ad.add (k * 2 + j)) = some u := hc0
  obtain ⟨A_cells, c_cells, rfl, hl_cells, hr_cells⟩ := kLine_open hK
  exact ⟨ad, A_cells, c_cells, e, hc 0 _ rfl, by rw [← add_field _ _ 1 (by omega)]; exact hc 1 _ rfl, hl_cells, hr_cells⟩
structure Set where
  i : Int
  j : Int
  p : Int
  q : Int
  old : Str
  new : Str
  deriving DecidableEq
def zSet : Set := ⟨0, 0, 0, 0, ⟨#[]⟩, ⟨#[]⟩⟩
def kSet : Kd Set := Kd.iso (Kd.pair (Kd.int .i64) (Kd.pair (Kd.int .i64) (Kd.pair (Kd.int .i64) (Kd.pair (Kd.int .i64) (Kd.pair (Kd.string) (Kd.string)))))) (fun x : Set => (x.i, x.j, x.p, x.q, x.old, x.new))
theorem kSet_open {w : World} {x : Set} {cs : List Value} (h : kSet.K w x cs) : cs = [.int .i64 x.i, .int .i64 x.j, .int .i64 x.p, .int .i64 x.q, .string x.old, .string x.new] := by
  obtain ⟨_, _, rfl, rfl, ⟨_, _, rfl, rfl, ⟨_, _, rfl, rfl, ⟨_, _, rfl, rfl, ⟨_, _, rfl, rfl, rfl⟩⟩⟩⟩⟩ := h
  rfl
theorem kSet_mk (w : World) (base : Nat) (ok : Nat → Prop) (x : Set) : kSet.M w base ok x [.int .i64 x.i, .int .i64 x.j, .int .i64 x.p, .int .i64 x.q, .string x.old, .string x.new] := ⟨[.int .i64 x.i], [.int .i64 x.j, .int .i64 x.p, .int .i64 x.q, .string x.old, .string x.new], rfl, rfl, ⟨[.int .i64 x.j], [.int .i64 x.p, .int .i64 x.q, .string x.old, .string x.new], rfl, rfl, ⟨[.int .i64 x.p], [.int .i64 x.q, .string x.old, .string x.new], rfl, rfl, ⟨[.int .i64 x.q], [.string x.old, .string x.new], rfl, rfl, ⟨[.string x.old], [.string x.new], rfl, rfl, rfl⟩⟩⟩⟩⟩
theorem C_Set {w : World} {A : Option Addr} {l : List Set} (h : kSet.C w A l.length l) {k : Nat} (hk : k < l.length) :
    ∃ ad , A = some ad ∧ w.cell? (ad.add (k * 6)) = some (.int .i64 (nth zSet l k).i) ∧ w.cell? ⟨(ad.add (k * 6)).block, (ad.add (k * 6)).off + 1, none⟩ = some (.int .i64 (nth zSet l k).j) ∧ w.cell? ⟨(ad.add (k * 6)).block, (ad.add (k * 6)).off + 2, none⟩ = some (.int .i64 (nth zSet l k).p) ∧ w.cell? ⟨(ad.add (k * 6)).block, (ad.add (k * 6)).off + 3, none⟩ = some (.int .i64 (nth zSet l k).q) ∧ w.cell? ⟨(ad.add (k * 6)).block, (ad.add (k * 6)).off + 4, none⟩ = some (.string (nth zSet l k).old) ∧ w.cell? ⟨(ad.add (k * 6)).block, (ad.add (k * 6)).off + 5, none⟩ = some (.string (nth zSet l k).new) := by
  obtain ⟨ad, c, e, hK, hc0⟩ := C_nth zSet h hk
  have hc : ∀ j u, c[j]? = some u → w.cell? (ad.add (k * 6 + j)) = some u := hc0
  obtain rfl := kSet_open hK
  exact ⟨ad, e, hc 0 _ rfl, by rw [← add_field _ _ 1 (by omega)]; exact hc 1 _ rfl, by rw [← add_field _ _ 2 (by omega)]; exact hc 2 _ rfl, by rw [← add_field _ _ 3 (by omega)]; exact hc 3 _ rfl, by rw [← add_field _ _ 4 (by omega)]; exact hc 4 _ rfl, by rw [← add_field _ _ 5 (by omega)]; exact hc 5 _ rfl⟩
structure Spot where
  row : Int
  col : Int
  cell : Str
  deriving DecidableEq
def zSpot : Spot := ⟨0, 0, ⟨#[]⟩⟩
def kSpot : Kd Spot := Kd.iso (Kd.pair (Kd.int .i64) (Kd.pair (Kd.int .i64) (Kd.string))) (fun x : Spot => (x.row, x.col, x.cell))
theorem kSpot_open {w : World} {x : Spot} {cs : List Value} (h : kSpot.K w x cs) : cs = [.int .i64 x.row, .int .i64 x.col, .string x.cell] := by
  obtain ⟨_, _, rfl, rfl, ⟨_, _, rfl, rfl, rfl⟩⟩ := h
  rfl
theorem kSpot_mk (w : World) (base : Nat) (ok : Nat → Prop) (x : Spot) : kSpot.M w base ok x [.int .i64 x.row, .int .i64 x.col, .string x.cell] := ⟨[.int .i64 x.row], [.int .i64 x.col, .string x.cell], rfl, rfl, ⟨[.int .i64 x.col], [.string x.cell], rfl, rfl, rfl⟩⟩
theorem C_Spot {w : World} {A : Option Addr} {l : List Spot} (h : kSpot.C w A l.length l) {k : Nat} (hk : k < l.length) :
    ∃ ad , A = some ad ∧ w.cell? (ad.add (k * 3)) = some (.int .i64 (nth zSpot l k).row) ∧ w.cell? ⟨(ad.add (k * 3)).block, (ad.add (k * 3)).off + 1, none⟩ = some (.int .i64 (nth zSpot l k).col) ∧ w.cell? ⟨(ad.add (k * 3)).block, (ad.add (k * 3)).off + 2, none⟩ = some (.string (nth zSpot l k).cell) := by
  obtain ⟨ad, c, e, hK, hc0⟩ := C_nth zSpot h hk
  have hc : ∀ j u, c[j]? = some u → w.cell? (ad.add (k * 3 + j)) = some u := hc0
  obtain rfl := kSpot_open hK
  exact ⟨ad, e, hc 0 _ rfl, by rw [← add_field _ _ 1 (by omega)]; exact hc 1 _ rfl, by rw [← add_field _ _ 2 (by omega)]; exact hc 2 _ rfl⟩
structure Conf where
  kind : Int
  row : Int
  col : Str
  base : Str
  ours : Str
  them : Str
  deriving DecidableEq
def zConf : Conf := ⟨0, 0, ⟨#[]⟩, ⟨#[]⟩, ⟨#[]⟩, ⟨#[]⟩⟩
def kConf : Kd Conf := Kd.iso (Kd.pair (Kd.int .i64) (Kd.pair (Kd.int .i64) (Kd.pair (Kd.string) (Kd.pair (Kd.string) (Kd.pair (Kd.string) (Kd.string)))))) (fun x : Conf => (x.kind, x.row, x.col, x.base, x.ours, x.them))
theorem kConf_open {w : World} {x : Conf} {cs : List Value} (h : kConf.K w x cs) : cs = [.int .i64 x.kind, .int .i64 x.row, .string x.col, .string x.base, .string x.ours, .string x.them] := by
  obtain ⟨_, _, rfl, rfl, ⟨_, _, rfl, rfl, ⟨_, _, rfl, rfl, ⟨_, _, rfl, rfl, ⟨_, _, rfl, rfl, rfl⟩⟩⟩⟩⟩ := h
  rfl
theorem kConf_mk (w : World) (base : Nat) (ok : Nat → Prop) (x : Conf) : kConf.M w base ok x [.int .i64 x.kind, .int .i64 x.row, .string x.col, .string x.base, .string x.ours, .string x.them] := ⟨[.int .i64 x.kind], [.int .i64 x.row, .string x.col, .string x.base, .string x.ours, .string x.them], rfl, rfl, ⟨[.int .i64 x.row], [.string x.col, .string x.base, .string x.ours, .string x.them], rfl, rfl, ⟨[.string x.col], [.string x.base, .string x.ours, .string x.them], rfl, rfl, ⟨[.string x.base], [.string x.ours, .string x.them], rfl, rfl, ⟨[.string x.ours], [.string x.them], rfl, rfl, rfl⟩⟩⟩⟩⟩
theorem C_Conf {w : World} {A : Option Addr} {l : List Conf} (h : kConf.C w A l.length l) {k : Nat} (hk : k < l.length) :
    ∃ ad , A = some ad ∧ w.cell? (ad.add (k * 6)) = some (.int .i64 (nth zConf l k).kind) ∧ w.cell? ⟨(ad.add (k * 6)).block, (ad.add (k * 6)).off + 1, none⟩ = some (.int .i64 (nth zConf l k).row) ∧ w.cell? ⟨(ad.add (k * 6)).block, (ad.add (k * 6)).off + 2, none⟩ = some (.string (nth zConf l k).col) ∧ w.cell? ⟨(ad.add (k * 6)).block, (ad.add (k * 6)).off + 3, none⟩ = some (.string (nth zConf l k).base) ∧ w.cell? ⟨(ad.add (k * 6)).block, (ad.add (k * 6)).off + 4, none⟩ = some (.string (nth zConf l k).ours) ∧ w.cell? ⟨(ad.add (k * 6)).block, (ad.add (k * 6)).off + 5, none⟩ = some (.string (nth zConf l k).them) := by
  obtain ⟨ad, c, e, hK, hc0⟩ := C_nth zConf h hk
  have hc : ∀ j u, c[j]? = some u → w.cell? (ad.add (k * 6 + j)) = some u := hc0
  obtain rfl := kConf_open hK
  exact ⟨ad, e, hc 0 _ rfl, by rw [← add_field _ _ 1 (by omega)]; exact hc 1 _ rfl, by rw [← add_field _ _ 2 (by omega)]; exact hc 2 _ rfl, by rw [← add_field _ _ 3 (by omega)]; exact hc 3 _ rfl, by rw [← add_field _ _ 4 (by omega)]; exact hc 4 _ rfl, by rw [← add_field _ _ 5 (by omega)]; exact hc 5 _ rfl⟩
def zTab : Tab := ⟨[], []⟩
def kTab : Kd Tab := Kd.iso (Kd.pair (Kd.slice 9 Kd.string) (Kd.slice 32 (Kd.slice 9 Kd.string))) (fun x : Tab => (x.head, x.rows))
theorem kTab_open {w : World} {x : Tab} {cs : List Value} (h : kTab.K w x cs) : ∃ A_head c_head A_rows c_rows, cs = [(.slice A_head x.head.length c_head), (.slice A_rows x.rows.length c_rows)] ∧ x.head.length ≤ c_head ∧ kStr.C w A_head x.head.length x.head ∧ x.rows.length ≤ c_rows ∧ kRow.C w A_rows x.rows.length x.rows := by
  obtain ⟨_, _, rfl, ⟨A_head, c_head, rfl, hl_head, hr_head⟩, ⟨A_rows, c_rows, rfl, hl_rows, hr_rows⟩⟩ := h
  exact ⟨A_head, c_head, A_rows, c_rows, rfl, hl_head, hr_head, hl_rows, hr_rows⟩
theorem C_Tab {w : World} {A : Option Addr} {l : List Tab} (h : kTab.C w A l.length l) {k : Nat} (hk : k < l.length) :
    ∃ ad A_head c_head A_rows c_rows, A = some ad ∧ w.cell? (ad.add (k * 2)) = some (.slice A_head (nth zTab l k).head.length c_head) ∧ w.cell? ⟨(ad.add (k * 2)).block, (ad.add (k * 2)).off + 1, none⟩ = some (.slice A_rows (nth zTab l k).rows.length c_rows) ∧ (nth zTab l k).head.length ≤ c_head ∧ kStr.C w A_head (nth zTab l k).head.length (nth zTab l k).head ∧ (nth zTab l k).rows.length ≤ c_rows ∧ kRow.C w A_rows (nth zTab l k).rows.length (nth zTab l k).rows := by
  obtain ⟨ad, c, e, hK, hc0⟩ := C_nth zTab h hk
  have hc : ∀ j u, c[j]? = some u → w.cell? (ad.add (k * 2 + j)) = some u := hc0
  obtain ⟨A_head, c_head, A_rows, c_rows, rfl, hl_head, hr_head, hl_rows, hr_rows⟩ := kTab_open hK
  exact ⟨ad, A_head, c_head, A_rows, c_rows, e, hc 0 _ rfl, by rw [← add_field _ _ 1 (by omega)]; exact hc 1 _ rfl, hl_head, hr_head, hl_rows, hr_rows⟩
end Go.Proofs.YthgjjfgedcaogaaDoor
