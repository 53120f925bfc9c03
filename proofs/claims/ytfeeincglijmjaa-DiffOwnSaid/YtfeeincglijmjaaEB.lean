/- Places, changed by numbers: plain laws; rows written in place. -/
import Derived.Test.YtfeeincglijmjaaEA
import Derived.Test.YtfeeincglijmjaaGA
namespace Go.Proofs.Ytfeeincglijmjaa
open Go.RowKit
set_option linter.unusedVariables false
set_option linter.unusedSimpArgs false

theorem nNext_bnd {L : List Int} {b : Bool} {m : Int} (h : ∀ x ∈ L, 0 ≤ x) (hm : 0 ≤ m) : 0 ≤ (nNext L b m).1 ∧ (nNext L b m).1 ≤ m ∧ (∀ x ∈ (nNext L b m).2.1, 0 ≤ x) ∧ (nNext L b m).2.1.length ≤ L.length := by
  cases b
  rotate_left
  · exact ⟨Int.le_refl _, hm, h, Nat.le_refl _⟩
  · cases L with
    | nil => exact ⟨Int.le_refl _, hm, h, Nat.le_refl _⟩
    | cons x r =>
      by_cases hx : m < x
      · simp only [nNext, hx, if_true, Bool.false_eq_true, if_false]
        exact ⟨Int.le_refl _, hm, h, Nat.le_refl _⟩
      · simp only [nNext, hx, Bool.false_eq_true, if_false]
        exact ⟨h x (List.mem_cons_self ..), by omega, fun y hy => h y (List.mem_cons_of_mem _ hy), by simp⟩
/-- Places written one behind the other. -/
def nPut : Nat → List (Int × Int) → Nat → List Int → Bool → List (Int × Int) × Nat × List Int × Bool
  | 0, o, p, L, b => (o, p, L, b)
  | k + 1, o, p, L, b => nPut k (o.set p ((nNext L b 4611686018427387903).1, (nNext (nNext L b 4611686018427387903).2.1 (nNext L b 4611686018427387903).2.2 4611686018427387903).1)) (p + 1)
      (nNext (nNext L b 4611686018427387903).2.1 (nNext L b 4611686018427387903).2.2 4611686018427387903).2.1 (nNext (nNext L b 4611686018427387903).2.1 (nNext L b 4611686018427387903).2.2 4611686018427387903).2.2
/-- What is ahead of a row's places: where it begins, how many, what is left. -/
def nTwo (n p : Nat) (L : List Int) (b : Bool) : Nat × Nat × List Int × Bool :=
  (p + (nNext L b (n - p)).1.toNat, (nNext (nNext L b (n - p)).2.1 (nNext L b (n - p)).2.2 (n - ((p + (nNext L b (n - p)).1.toNat : Nat) : Int))).1.toNat,
    (nNext (nNext L b (n - p)).2.1 (nNext L b (n - p)).2.2 (n - ((p + (nNext L b (n - p)).1.toNat : Nat) : Int))).2.1, (nNext (nNext L b (n - p)).2.1 (nNext L b (n - p)).2.2 (n - ((p + (nNext L b (n - p)).1.toNat : Nat) : Int))).2.2)
/-- Rows. -/
def nRows : Nat → List (Int × Int) → Nat → List Int → Bool → List (Int × Int) × List Int × Bool
  | 0, o, p, L, b => (o, L, b)
  | k + 1, o, p, L, b => nRows k (nPut (nTwo o.length p L b).2.1 o (nTwo o.length p L b).1 (nTwo o.length p L b).2.2.1 (nTwo o.length p L b).2.2.2).1 (nPut (nTwo o.length p L b).2.1 o (nTwo o.length p L b).1 (nTwo o.length p L b).2.2.1 (nTwo o.length p L b).2.2.2).2.1
      (nPut (nTwo o.length p L b).2.1 o (nTwo o.length p L b).1 (nTwo o.length p L b).2.2.1 (nTwo o.length p L b).2.2.2).2.2.1 (nPut (nTwo o.length p L b).2.1 o (nTwo o.length p L b).1 (nTwo o.length p L b).2.2.1 (nTwo o.length p L b).2.2.2).2.2.2
/-- Places, changed by numbers, and what is left. -/
def nChg (f : List (Int × Int)) (L : List Int) (b : Bool) : List (Int × Int) × List Int × Bool := nRows (nNext L b f.length).1.toNat f 0 (nNext L b f.length).2.1 (nNext L b f.length).2.2

theorem own_keep {w w' : World} {base : Nat} {e : TypeId} {s : Nat} {v : Value} {n : Nat} {xs : List Value} {g : Nat} (h : w.ownsRow base e s v n xs) (hg : w.grownBy w' (some g)) (hb : g < base) : w'.ownsRow base e s v n xs := by
  refine ⟨h.1, ?_⟩
  rcases h.2 with h2 | ⟨g', cap, cur, hv, hg', hh, r⟩
  · exact .inl h2
  · exact .inr ⟨g', cap, cur, hv, hg', (hg.block g' (Array.getElem?_eq_some_iff.1 hh).1 (fun e => by injection e with e; omega)).trans hh, r⟩
theorem grown_own {w w1 w2 : World} {g k : Nat} (h : w.grownBy w1 (some g)) (h2 : w1.grownBy w2 (some k)) (hk : w.heap.size ≤ k) : w.grownBy w2 (some g) :=
  ⟨h2.os.trans h.os, h2.tape.trans h.tape, h2.output.trans h.output, Nat.le_trans h.size h2.size, fun j hj hne => (h2.block j (Nat.lt_of_lt_of_le hj h.size) (fun e => by injection e with e; omega)).trans (h.block j hj hne)⟩
theorem grown_below' {w w1 : World} {g : Nat} (h : Below w.heap.size w w1) : w.grownBy w1 (some g) := grownBy_below h (Nat.le_refl _)
/-- A place, written in a row that is one's own. -/
theorem own_setc {w : World} {base n c p : Nat} {A : Option Addr} {o : List (Int × Int)} (h : w.ownsRow base 64 2 (.slice A n c) n (cCells o)) (hp : p < o.length) (x y : Int) :
    ∃ g, A = some ⟨g, 0, none⟩ ∧ base ≤ g ∧ g < w.heap.size ∧ (∃ u, w.cell? ⟨g, p * 2, none⟩ = some u) ∧ (∃ u, w.cell? ⟨g, p * 2 + 1, none⟩ = some u) ∧ (∀ i, w.frozen? ⟨g, i, none⟩ = false) ∧
      (w.setCells g (p * 2) [.int .i64 x, .int .i64 y]).ownsRow base 64 2 (.slice A n c) n (cCells (o.set p (x, y))) := by
  have hn : n = o.length := by have := h.1; rw [cCells_length] at this; omega
  subst hn
  obtain ⟨g, cur, rfl, hb, hg, hnc, hcm, hcs, ht⟩ := own_split h (by omega)
  have hlt := (Array.getElem?_eq_some_iff.1 hg).1
  have q1 : p * 2 + 1 < cur.size := by omega
  obtain ⟨cur', h1, e1⟩ := setCells_row g [.int .i64 x, .int .i64 y] (p * 2) w cur hg (by simp; omega)
  refine ⟨g, rfl, hb, hlt, ?_, ?_, fun i => by simp [World.frozen?, hg], ?_⟩
  · rw [cell_of_row w g _ cur 64 (0, 0) hg]
    exact ⟨_, Array.getElem?_eq_getElem (by omega)⟩
  · rw [cell_of_row w g _ cur 64 (0, 0) hg]
    exact ⟨_, Array.getElem?_eq_getElem q1⟩
  · refine own_mk hb h1 hnc hcm ?_ ?_
    · rw [← Array.length_toList, e1, List.length_append, List.length_append, List.length_take, List.length_drop, Array.length_toList]
      simp only [List.length_cons, List.length_nil]
      omega
    · have ec : cCells (o.set p (x, y)) = cCells (o.take p) ++ [.int .i64 x, .int .i64 y] ++ cCells (o.drop (p + 1)) := by
        rw [List.set_eq_take_append_cons_drop, if_pos hp, cCells_append, show (x, y) :: o.drop (p + 1) = [(x, y)] ++ o.drop (p + 1) from rfl, cCells_append, List.append_assoc]
        rfl
      rw [ec, ← cCells_take, ← cCells_drop, ← ht, e1, List.take_take, Nat.min_eq_left (by omega), List.drop_take, List.append_assoc, List.append_assoc, List.take_append, List.take_append]
      have l1 : (cur.toList.take (p * 2)).length = p * 2 := by rw [List.length_take, Array.length_toList]; omega
      rw [l1, List.take_of_length_le (l := cur.toList.take (p * 2)) (by omega), List.take_of_length_le (l := [Value.int .i64 x, .int .i64 y]) (by simp; omega)]
      simp only [List.length_cons, List.length_nil]
      rw [show p * 2 + (0 + 1 + 1) = (p + 1) * 2 from by omega, show o.length * 2 - p * 2 - (0 + 1 + 1) = o.length * 2 - (p + 1) * 2 from by omega]
end Go.Proofs.Ytfeeincglijmjaa
