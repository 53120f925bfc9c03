/- Memory in the walk of KeysOrder. -/
import Derived.Test.YtdiphckbnendlaaOA
namespace Go.Proofs.Ytdiphckbnendlaa
open Go.RowKit
set_option linter.unusedVariables false
set_option linter.unusedSimpArgs false

/-- A step, with where its bytes lie. -/
structure St where
  k : Int
  d : List UInt8
  D : Option Addr
  c : Nat
  a : Int
  b : Int
def stCells : List St → List Value
  | [] => []
  | p :: l => .int .i64 p.k :: .slice p.D p.d.length p.c :: .int .u8 p.a :: .int .u8 p.b :: stCells l
theorem stCells_length : ∀ l : List St, (stCells l).length = l.length * 4
  | [] => rfl
  | p :: l => by simp [stCells, stCells_length l, Nat.add_mul]
theorem stCells_append : ∀ l m : List St, stCells (l ++ m) = stCells l ++ stCells m
  | [], m => rfl
  | p :: l, m => by simp [stCells, stCells_append l m]
theorem stCells_one : ∀ l : List St, ∀ u ∈ stCells l, u.oneCell' = true
  | [], u, h => by simp [stCells] at h
  | p :: l, u, h => by
    simp only [stCells, List.mem_cons] at h
    rcases h with rfl | rfl | rfl | rfl | h
    · rfl
    · rfl
    · rfl
    · rfl
    · exact stCells_one l u h
theorem stCells_at : ∀ (l : List St) (j : Nat) (h : j < l.length), (stCells l)[j * 4]? = some (.int .i64 l[j].k) ∧ (stCells l)[j * 4 + 1]? = some (.slice l[j].D l[j].d.length l[j].c) ∧ (stCells l)[j * 4 + 2]? = some (.int .u8 l[j].a) ∧ (stCells l)[j * 4 + 3]? = some (.int .u8 l[j].b)
  | [], j, h => absurd h (by simp)
  | p :: l, 0, h => by simp [stCells]
  | p :: l, j + 1, h => by
    have := stCells_at l j (by simpa using h)
    rw [show (j + 1) * 4 = j * 4 + 4 from by omega]
    simpa [stCells] using this
theorem slt_cell {w : World} {lo up n c : Nat} {A : Option Addr} {l : List St} (hr : Sl w lo up 4 A n c (stCells l)) (hn : 0 < n) :
    ∃ g o, A = some ⟨g, o, none⟩ ∧ g < up ∧ ∀ j (h : j < l.length), w.cell? ⟨g, o + j * 4, none⟩ = some (.int .i64 l[j].k) ∧ w.cell? ⟨g, o + j * 4 + 1, none⟩ = some (.slice l[j].D l[j].d.length l[j].c) ∧ w.cell? ⟨g, o + j * 4 + 2, none⟩ = some (.int .u8 l[j].a) ∧ w.cell? ⟨g, o + j * 4 + 3, none⟩ = some (.int .u8 l[j].b) := by
  obtain ⟨g, o, rfl, _, hb, hc⟩ := hr.at_ hn
  refine ⟨g, o, rfl, hb, fun j h => ?_⟩
  have hl := stCells_length l
  have := stCells_at l j h
  simp only [Nat.add_assoc]
  rw [hc (j * 4) (by omega), hc (j * 4 + 1) (by omega), hc (j * 4 + 2) (by omega), hc (j * 4 + 3) (by omega)]
  exact this

/-- Bytes that lie apart from a block and from a row. -/
def Lies (W : World) (g4 : Nat) (row : Option Nat) (D : Option Addr) (n c : Nat) (xs : List UInt8) : Prop :=
  ∃ lo up, Sl W lo up 1 D n c (byteCells xs) ∧ up ≤ W.heap.size ∧ (up ≤ g4 ∨ g4 < lo) ∧ ∀ g, row = some g → up ≤ g ∨ g < lo
theorem Lies.below {W W' : World} {g4 : Nat} {row : Option Nat} {D : Option Addr} {n c : Nat} {xs : List UInt8} (h : Lies W g4 row D n c xs) (hb : Below W.heap.size W W') : Lies W' g4 row D n c xs := by
  obtain ⟨lo, up, h1, h2, h3, h4⟩ := h
  exact ⟨lo, up, h1.below hb h2, Nat.le_trans h2 hb.size, h3, h4⟩
theorem Lies.alloc {W : World} {g4 : Nat} {row : Option Nat} {D : Option Addr} {n c : Nat} {xs : List UInt8} (h : Lies W g4 row D n c xs) (o : Obj) : Lies (W.alloc o) g4 row D n c xs := h.below ((Below.refl _ W).alloc (Nat.le_refl _) o)
theorem Lies.set4 {W : World} {g4 : Nat} {row : Option Nat} {D : Option Addr} {n c : Nat} {xs : List UInt8} (h : Lies W g4 row D n c xs) (j : Nat) (u : Value) : Lies (W.setCell ⟨g4, j, none⟩ u) g4 row D n c xs := by
  obtain ⟨lo, up, h1, h2, h3, h4⟩ := h
  exact ⟨lo, up, h1.setCell (p := ⟨g4, j, none⟩) (by rcases h3 with h | h <;> first | exact .inr h | exact .inl h) u, by rw [World.size_setCell]; exact h2, h3, h4⟩
theorem Lies.grown {W W' : World} {g4 : Nat} {row row' : Option Nat} {D : Option Addr} {n c : Nat} {xs : List UInt8} (h : Lies W g4 row D n c xs) (hg : W.grownBy W' row) (hr : ∀ g, row' = some g → row = some g ∨ W.heap.size ≤ g) : Lies W' g4 row' D n c xs := by
  obtain ⟨lo, up, h1, h2, h3, h4⟩ := h
  refine ⟨lo, up, h1.keep fun p hp1 hp2 => World.cell?_of_block (hg.block p.block (by omega) fun e => ?_), Nat.le_trans h2 hg.size, h3, fun g e => ?_⟩
  · rcases h4 p.block e.symm with h | h <;> omega
  · rcases hr g e with h | h
    · exact h4 g h
    · exact .inl (by omega)
theorem Lies.fresh {W W' : World} {g4 : Nat} {row : Option Nat} {D : Option Addr} {n c : Nat} {xs : List UInt8} {up : Nat} (h : Sl W' W.heap.size up 1 D n c (byteCells xs)) (hu : up ≤ W'.heap.size) (h4 : g4 < W.heap.size) (hr : ∀ g, row = some g → g < W.heap.size) : Lies W' g4 row D n c xs :=
  ⟨W.heap.size, up, h, hu, .inr h4, fun g e => .inr (hr g e)⟩
theorem Lies.sl {W : World} {g4 : Nat} {row : Option Nat} {D : Option Addr} {n c : Nat} {xs : List UInt8} (h : Lies W g4 row D n c xs) : ∃ lo up, Sl W lo up 1 D n c (byteCells xs) ∧ up ≤ W.heap.size := by
  obtain ⟨lo, up, h1, h2, _⟩ := h
  exact ⟨lo, up, h1, h2⟩
end Go.Proofs.Ytdiphckbnendlaa
