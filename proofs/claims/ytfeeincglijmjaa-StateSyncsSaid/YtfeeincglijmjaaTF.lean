/- The walk of grid's Put, at the screen of two places that awake calls it at. -/
import Derived.Test.YtfeeincglijmjaaTD
import Derived.Test.YtfeeincglijmjaaZB15
namespace Go.Proofs.Ytfeeincglijmjaa
open Go.RowKit
set_option linter.unusedVariables false
set_option linter.unusedSimpArgs false
attribute [local go_sem ↓] Go.wp_at_zero Go.wp_at_succ

/-- Two places, the first one written. -/
def sX : Scr := ⟨2, 1, 1, 0, 0, 0, 0, false, true, false, false, 0, 0, 0, [(120, 0), (32, 0)], []⟩
theorem gOkX : gOk sX = true := by kernel_rfl
theorem sA_v (C : Option Addr) (cc : Nat) (M : Option Addr) (cm : Nat) : sA.v C cc M cm = #[.int .i64 2, .int .i64 1, .slice C 2 cc, .int .i64 0, .int .i64 0, .int .i64 0, .int .i64 0, .int .i64 0, .bool false, .bool true, .bool false, .bool false, .int .i64 0, .int .i64 0, .int .i64 0, .slice M 0 cm] := rfl
theorem sX_v (C : Option Addr) (cc : Nat) (M : Option Addr) (cm : Nat) : sX.v C cc M cm = #[.int .i64 2, .int .i64 1, .slice C 2 cc, .int .i64 1, .int .i64 0, .int .i64 0, .int .i64 0, .int .i64 0, .bool false, .bool true, .bool false, .bool false, .int .i64 0, .int .i64 0, .int .i64 0, .slice M 0 cm] := rfl

set_option maxHeartbeats 4000000 in
set_option maxRecDepth 100000 in
/-- What is done to the copy. -/
theorem putx_fn {g h base : Nat} {C M : Option Addr} {cc cm : Nat} {w : World} (kA : Blk w g 35 (sA.v C cc M cm)) (kN : Blk w h 3 #[.int .i64 120]) (hown : w.ownsRow base 64 2 (.slice C 2 cc) 2 (cCells [(32, 0), (32, 0)])) (hg : g < base) (hh : h < base) :
    Calls Try.prog 78 #[.pointer (some ⟨g, 0, none⟩), .pointer (some ⟨h, 0, none⟩)] w fun e w' => e = .returned (.tuple #[]) ∧ Blk w' g 35 (sX.v C cc M cm) ∧ w'.ownsRow base 64 2 (.slice C 2 cc) 2 (cCells [(120, 0), (32, 0)]) ∧ w'.heap.size = w.heap.size ∧
      (∀ k, k < base → k ≠ g → w'.heap[k]? = w.heap[k]?) ∧ ∀ B, B ≤ g → B ≤ base → Below B w w' := by
  rw [sA_v] at kA
  rw [sX_v]
  have hlt := kN.lt
  have hlg := kA.lt
  obtain ⟨gr, rfl, hgb, hgl, ⟨u1, k1⟩, ⟨u2, k2⟩, kf, own1⟩ := own_setc (p := 0) hown (by decide) 120 0
  have G1 := grownBy_setCells gr [.int .i64 120, .int .i64 0] (0 * 2) w
  have kA1 := kA.grown G1 (fun e => by injection e with e; omega)
  have kN1 := kN.grown G1 (fun e => by injection e with e; omega)
  have hz1 : (w.setCells gr (0 * 2) [.int .i64 120, .int .i64 0]).heap.size = w.heap.size := by simp [World.setCells]
  have kh1 : ∀ k, k < base → (w.setCells gr (0 * 2) [.int .i64 120, .int .i64 0]).heap[k]? = w.heap[k]? := fun k hk => by
    rcases Nat.lt_or_ge k w.heap.size with hl | hl
    · exact G1.block k hl (fun e => by injection e with e; omega)
    · rw [Array.getElem?_eq_none hl, Array.getElem?_eq_none (by omega)]
  have bb1 : ∀ B, B ≤ base → Below B w (w.setCells gr (0 * 2) [.int .i64 120, .int .i64 0]) := fun B hB => (Below.refl B w).grown G1 (by omega) (fun k e => by cases e; omega)
  simp only [Nat.zero_mul, Nat.zero_add] at k1 k2
  have a0 := addr_add g 0 0
  have a2 := addr_add g 0 2
  have a3 := addr_add g 0 3
  have a4 := addr_add g 0 4
  have a5 := addr_add g 0 5
  have a8 := addr_add g 0 8
  have a9 := addr_add g 0 9
  have ar0 := addr_add gr 0 0
  have ⟨kc, ke⟩ := kA.rules
  have ⟨nc, ne⟩ := kN.rules
  generalize hW1 : w.setCells gr (0 * 2) [.int .i64 120, .int .i64 0] = w1 at *
  simp only [World.setCells, Nat.zero_mul, Nat.zero_add, Nat.reduceAdd] at hW1
  go_enter Try.func78, Try.ntmps78
  go_upto_region 3 with fail
  clear hown G1 kN
  refine wp_region_noPanic ?_
  refine wp_region_until (S := (fun w' : World => w'.cell? ⟨g, 0, none⟩ = some (.int .i64 2) ∧ w'.cell? ⟨g, 2, none⟩ = some (.slice (some ⟨gr, 0, none⟩) 2 cc) ∧ w'.cell? ⟨g, 3, none⟩ = some (.int .i64 0) ∧ w'.cell? ⟨g, 4, none⟩ = some (.int .i64 0) ∧ w'.cell? ⟨g, 5, none⟩ = some (.int .i64 0) ∧ w'.cell? ⟨g, 9, none⟩ = some (.bool true) ∧ w'.cell? ⟨h, 0, none⟩ = some (.int .i64 120))) 25 (by kernel_rfl) (by (try dsimp only); exact ⟨kc 0, kc 2, kc 3, kc 4, kc 5, kc 9, nc 0⟩) (fun hHeld => ?_)
  refine wpAnyU_take (i := 0) (oi := { dst := some 18, op := Op.move (Operand.tmp 0), type := 95, pos := "grid.go:125", after := #[], guard := none }) (v := ?_) rfl (by kernel_rfl) (by kernel_rfl) (by kernel_rfl) (by kernel_rfl) (fun _ _ _ h => h) (Or.inl ⟨by rfl, ?_⟩) (by assumption) ?_
  rotate_left
  · (intro w hSw; (try dsimp only at hSw); go_simp); (try with_reducible rfl)
  try simp only [Act.put, List.setIfInBounds_toArray, List.set_cons_zero, List.set_cons_succ]
  refine wpAnyU_take (i := 1) (oi := { dst := some 19, op := Op.nilCheck (Operand.tmp 18), type := 0, pos := "grid.go:125", after := #[{ on := 0, ground := Ground.data }], guard := none }) (v := ?_) rfl (by kernel_rfl) (by kernel_rfl) (by kernel_rfl) (by kernel_rfl) (fun _ _ _ h => h) (Or.inl ⟨by rfl, ?_⟩) (by assumption) ?_
  rotate_left
  · (intro w hSw; (try dsimp only at hSw); go_simp); (try with_reducible rfl)
  try simp only [Act.put, List.setIfInBounds_toArray, List.set_cons_zero, List.set_cons_succ]
  refine wpAnyU_take (i := 2) (oi := { dst := some 20, op := Op.fieldAddr 35 (Operand.tmp 19) 2, type := 0, pos := "grid.go:125", after := #[{ on := 1, ground := Ground.data }], guard := none }) (v := ?_) rfl (by kernel_rfl) (by kernel_rfl) (by kernel_rfl) (by kernel_rfl) (fun _ _ _ h => h) (Or.inl ⟨by rfl, ?_⟩) (by assumption) ?_
  rotate_left
  · (intro w hSw; (try dsimp only at hSw); go_simp); (try with_reducible rfl)
  try simp only [Act.put, List.setIfInBounds_toArray, List.set_cons_zero, List.set_cons_succ]
  refine wpAnyU_take (i := 3) (oi := { dst := some 21, op := Op.load 32 (Operand.tmp 20), type := 32, pos := "grid.go:125", after := #[{ on := 2, ground := Ground.data }], guard := none }) (v := ?_) rfl (by kernel_rfl) (by kernel_rfl) (by kernel_rfl) (by kernel_rfl) (fun _ _ _ h => h) (Or.inl ⟨by rfl, ?_⟩) (by assumption) ?_
  rotate_left
  · (intro w hSw; (try dsimp only at hSw); go_simp); (try with_reducible rfl)
  try simp only [Act.put, List.setIfInBounds_toArray, List.set_cons_zero, List.set_cons_succ]
  refine wpAnyU_take (i := 4) (oi := { dst := some 22, op := Op.move (Operand.tmp 0), type := 95, pos := "grid.go:125", after := #[], guard := none }) (v := ?_) rfl (by kernel_rfl) (by kernel_rfl) (by kernel_rfl) (by kernel_rfl) (fun _ _ _ h => h) (Or.inl ⟨by rfl, ?_⟩) (by assumption) ?_
  rotate_left
  · (intro w hSw; (try dsimp only at hSw); go_simp); (try with_reducible rfl)
  try simp only [Act.put, List.setIfInBounds_toArray, List.set_cons_zero, List.set_cons_succ]
  refine wpAnyU_take (i := 5) (oi := { dst := some 23, op := Op.nilCheck (Operand.tmp 22), type := 0, pos := "grid.go:125", after := #[{ on := 4, ground := Ground.data }], guard := none }) (v := ?_) rfl (by kernel_rfl) (by kernel_rfl) (by kernel_rfl) (by kernel_rfl) (fun _ _ _ h => h) (Or.inl ⟨by rfl, ?_⟩) (by assumption) ?_
  rotate_left
  · (intro w hSw; (try dsimp only at hSw); go_simp); (try with_reducible rfl)
  try simp only [Act.put, List.setIfInBounds_toArray, List.set_cons_zero, List.set_cons_succ]
  refine wpAnyU_take (i := 6) (oi := { dst := some 24, op := Op.fieldAddr 35 (Operand.tmp 23) 4, type := 0, pos := "grid.go:125", after := #[{ on := 5, ground := Ground.data }], guard := none }) (v := ?_) rfl (by kernel_rfl) (by kernel_rfl) (by kernel_rfl) (by kernel_rfl) (fun _ _ _ h => h) (Or.inl ⟨by rfl, ?_⟩) (by assumption) ?_
  rotate_left
  · (intro w hSw; (try dsimp only at hSw); go_simp); (try with_reducible rfl)
  try simp only [Act.put, List.setIfInBounds_toArray, List.set_cons_zero, List.set_cons_succ]
  refine wpAnyU_take (i := 7) (oi := { dst := some 25, op := Op.load 3 (Operand.tmp 24), type := 3, pos := "grid.go:125", after := #[{ on := 6, ground := Ground.data }], guard := none }) (v := ?_) rfl (by kernel_rfl) (by kernel_rfl) (by kernel_rfl) (by kernel_rfl) (fun _ _ _ h => h) (Or.inl ⟨by rfl, ?_⟩) (by assumption) ?_
  rotate_left
  · (intro w hSw; (try dsimp only at hSw); go_simp); (try with_reducible rfl)
  try simp only [Act.put, List.setIfInBounds_toArray, List.set_cons_zero, List.set_cons_succ]
  refine wpAnyU_take (i := 8) (oi := { dst := some 26, op := Op.move (Operand.tmp 0), type := 95, pos := "grid.go:125", after := #[], guard := none }) (v := ?_) rfl (by kernel_rfl) (by kernel_rfl) (by kernel_rfl) (by kernel_rfl) (fun _ _ _ h => h) (Or.inl ⟨by rfl, ?_⟩) (by assumption) ?_
  rotate_left
  · (intro w hSw; (try dsimp only at hSw); go_simp); (try with_reducible rfl)
  try simp only [Act.put, List.setIfInBounds_toArray, List.set_cons_zero, List.set_cons_succ]
  refine wpAnyU_take (i := 9) (oi := { dst := some 27, op := Op.nilCheck (Operand.tmp 26), type := 0, pos := "grid.go:125", after := #[{ on := 8, ground := Ground.data }], guard := none }) (v := ?_) rfl (by kernel_rfl) (by kernel_rfl) (by kernel_rfl) (by kernel_rfl) (fun _ _ _ h => h) (Or.inl ⟨by rfl, ?_⟩) (by assumption) ?_
  rotate_left
  · (intro w hSw; (try dsimp only at hSw); go_simp); (try with_reducible rfl)
  try simp only [Act.put, List.setIfInBounds_toArray, List.set_cons_zero, List.set_cons_succ]
  refine wpAnyU_take (i := 10) (oi := { dst := some 28, op := Op.fieldAddr 35 (Operand.tmp 27) 0, type := 0, pos := "grid.go:125", after := #[{ on := 9, ground := Ground.data }], guard := none }) (v := ?_) rfl (by kernel_rfl) (by kernel_rfl) (by kernel_rfl) (by kernel_rfl) (fun _ _ _ h => h) (Or.inl ⟨by rfl, ?_⟩) (by assumption) ?_
  rotate_left
  · (intro w hSw; (try dsimp only at hSw); go_simp); (try with_reducible rfl)
  try simp only [Act.put, List.setIfInBounds_toArray, List.set_cons_zero, List.set_cons_succ]
  refine wpAnyU_take (i := 11) (oi := { dst := some 29, op := Op.load 3 (Operand.tmp 28), type := 3, pos := "grid.go:125", after := #[{ on := 10, ground := Ground.data }], guard := none }) (v := ?_) rfl (by kernel_rfl) (by kernel_rfl) (by kernel_rfl) (by kernel_rfl) (fun _ _ _ h => h) (Or.inl ⟨by rfl, ?_⟩) (by assumption) ?_
  rotate_left
  · (intro w hSw; (try dsimp only at hSw); go_simp); (try with_reducible rfl)
  try simp only [Act.put, List.setIfInBounds_toArray, List.set_cons_zero, List.set_cons_succ]
  refine wpAnyU_take (i := 12) (oi := { dst := some 30, op := Op.binOp BinOp.mul 3 (Operand.tmp 25) (Operand.tmp 29) 3, type := 3, pos := "grid.go:125", after := #[{ on := 7, ground := Ground.data }, { on := 11, ground := Ground.data }], guard := none }) (v := .int .i64 0) rfl (by kernel_rfl) (by kernel_rfl) (by kernel_rfl) (by kernel_rfl) (fun _ _ _ h => h) (Or.inl ⟨by rfl, fun w hSw => by kernel_rfl⟩) (by assumption) ?_
  try simp only [Act.put, List.setIfInBounds_toArray, List.set_cons_zero, List.set_cons_succ]
  refine wpAnyU_take (i := 13) (oi := { dst := some 31, op := Op.move (Operand.tmp 0), type := 95, pos := "grid.go:125", after := #[], guard := none }) (v := ?_) rfl (by kernel_rfl) (by kernel_rfl) (by kernel_rfl) (by kernel_rfl) (fun _ _ _ h => h) (Or.inl ⟨by rfl, ?_⟩) (by assumption) ?_
  rotate_left
  · (intro w hSw; (try dsimp only at hSw); go_simp); (try with_reducible rfl)
  try simp only [Act.put, List.setIfInBounds_toArray, List.set_cons_zero, List.set_cons_succ]
  refine wpAnyU_take (i := 14) (oi := { dst := some 32, op := Op.nilCheck (Operand.tmp 31), type := 0, pos := "grid.go:125", after := #[{ on := 13, ground := Ground.data }], guard := none }) (v := ?_) rfl (by kernel_rfl) (by kernel_rfl) (by kernel_rfl) (by kernel_rfl) (fun _ _ _ h => h) (Or.inl ⟨by rfl, ?_⟩) (by assumption) ?_
  rotate_left
  · (intro w hSw; (try dsimp only at hSw); go_simp); (try with_reducible rfl)
  try simp only [Act.put, List.setIfInBounds_toArray, List.set_cons_zero, List.set_cons_succ]
  refine wpAnyU_take (i := 15) (oi := { dst := some 33, op := Op.fieldAddr 35 (Operand.tmp 32) 3, type := 0, pos := "grid.go:125", after := #[{ on := 14, ground := Ground.data }], guard := none }) (v := ?_) rfl (by kernel_rfl) (by kernel_rfl) (by kernel_rfl) (by kernel_rfl) (fun _ _ _ h => h) (Or.inl ⟨by rfl, ?_⟩) (by assumption) ?_
  rotate_left
  · (intro w hSw; (try dsimp only at hSw); go_simp); (try with_reducible rfl)
  try simp only [Act.put, List.setIfInBounds_toArray, List.set_cons_zero, List.set_cons_succ]
  refine wpAnyU_take (i := 16) (oi := { dst := some 34, op := Op.load 3 (Operand.tmp 33), type := 3, pos := "grid.go:125", after := #[{ on := 15, ground := Ground.data }], guard := none }) (v := ?_) rfl (by kernel_rfl) (by kernel_rfl) (by kernel_rfl) (by kernel_rfl) (fun _ _ _ h => h) (Or.inl ⟨by rfl, ?_⟩) (by assumption) ?_
  rotate_left
  · (intro w hSw; (try dsimp only at hSw); go_simp); (try with_reducible rfl)
  try simp only [Act.put, List.setIfInBounds_toArray, List.set_cons_zero, List.set_cons_succ]
  refine wpAnyU_take (i := 17) (oi := { dst := some 35, op := Op.binOp BinOp.add 3 (Operand.tmp 30) (Operand.tmp 34) 3, type := 3, pos := "grid.go:125", after := #[{ on := 12, ground := Ground.data }, { on := 16, ground := Ground.data }], guard := none }) (v := .int .i64 0) rfl (by kernel_rfl) (by kernel_rfl) (by kernel_rfl) (by kernel_rfl) (fun _ _ _ h => h) (Or.inl ⟨by rfl, fun w hSw => by kernel_rfl⟩) (by assumption) ?_
  try simp only [Act.put, List.setIfInBounds_toArray, List.set_cons_zero, List.set_cons_succ]
  refine wpAnyU_take (i := 18) (oi := { dst := some 36, op := Op.load 3 (Operand.tmp 1), type := 3, pos := "grid.go:125", after := #[], guard := none }) (v := ?_) rfl (by kernel_rfl) (by kernel_rfl) (by kernel_rfl) (by kernel_rfl) (fun _ _ _ h => h) (Or.inl ⟨by rfl, ?_⟩) (by assumption) ?_
  rotate_left
  · (intro w hSw; (try dsimp only at hSw); go_simp); (try with_reducible rfl)
  try simp only [Act.put, List.setIfInBounds_toArray, List.set_cons_zero, List.set_cons_succ]
  refine wpAnyU_take (i := 19) (oi := { dst := some 37, op := Op.move (Operand.tmp 0), type := 95, pos := "grid.go:125", after := #[], guard := none }) (v := ?_) rfl (by kernel_rfl) (by kernel_rfl) (by kernel_rfl) (by kernel_rfl) (fun _ _ _ h => h) (Or.inl ⟨by rfl, ?_⟩) (by assumption) ?_
  rotate_left
  · (intro w hSw; (try dsimp only at hSw); go_simp); (try with_reducible rfl)
  try simp only [Act.put, List.setIfInBounds_toArray, List.set_cons_zero, List.set_cons_succ]
  refine wpAnyU_take (i := 20) (oi := { dst := some 38, op := Op.nilCheck (Operand.tmp 37), type := 0, pos := "grid.go:125", after := #[{ on := 19, ground := Ground.data }], guard := none }) (v := ?_) rfl (by kernel_rfl) (by kernel_rfl) (by kernel_rfl) (by kernel_rfl) (fun _ _ _ h => h) (Or.inl ⟨by rfl, ?_⟩) (by assumption) ?_
  rotate_left
  · (intro w hSw; (try dsimp only at hSw); go_simp); (try with_reducible rfl)
  try simp only [Act.put, List.setIfInBounds_toArray, List.set_cons_zero, List.set_cons_succ]
  refine wpAnyU_take (i := 21) (oi := { dst := some 39, op := Op.fieldAddr 35 (Operand.tmp 38) 5, type := 0, pos := "grid.go:125", after := #[{ on := 20, ground := Ground.data }], guard := none }) (v := ?_) rfl (by kernel_rfl) (by kernel_rfl) (by kernel_rfl) (by kernel_rfl) (fun _ _ _ h => h) (Or.inl ⟨by rfl, ?_⟩) (by assumption) ?_
  rotate_left
  · (intro w hSw; (try dsimp only at hSw); go_simp); (try with_reducible rfl)
  try simp only [Act.put, List.setIfInBounds_toArray, List.set_cons_zero, List.set_cons_succ]
  refine wpAnyU_take (i := 22) (oi := { dst := some 40, op := Op.load 3 (Operand.tmp 39), type := 3, pos := "grid.go:125", after := #[{ on := 21, ground := Ground.data }], guard := none }) (v := ?_) rfl (by kernel_rfl) (by kernel_rfl) (by kernel_rfl) (by kernel_rfl) (fun _ _ _ h => h) (Or.inl ⟨by rfl, ?_⟩) (by assumption) ?_
  rotate_left
  · (intro w hSw; (try dsimp only at hSw); go_simp); (try with_reducible rfl)
  try simp only [Act.put, List.setIfInBounds_toArray, List.set_cons_zero, List.set_cons_succ]
  refine wpAnyU_take (i := 23) (oi := { dst := some 41, op := Op.build 64 #[(0, Operand.tmp 36), (1, Operand.tmp 40)], type := 64, pos := "grid.go:125", after := #[{ on := 18, ground := Ground.data }, { on := 22, ground := Ground.data }], guard := none }) (v := ?_) rfl (by kernel_rfl) (by kernel_rfl) (by kernel_rfl) (by kernel_rfl) (fun _ _ _ h => h) (Or.inl ⟨by rfl, ?_⟩) (by assumption) ?_
  rotate_left
  · (intro w hSw; (try dsimp only at hSw); go_simp); (try with_reducible rfl)
  try simp only [Act.put, List.setIfInBounds_toArray, List.set_cons_zero, List.set_cons_succ]
  refine wpAnyU_take (i := 24) (oi := { dst := some 42, op := Op.indexAddr 32 (Operand.tmp 21) (Operand.tmp 35), type := 0, pos := "grid.go:125", after := #[{ on := 3, ground := Ground.data }, { on := 17, ground := Ground.data }, { on := 0, ground := Ground.phase }, { on := 1, ground := Ground.phase }, { on := 2, ground := Ground.phase }, { on := 3, ground := Ground.phase }, { on := 4, ground := Ground.phase }, { on := 5, ground := Ground.phase }, { on := 6, ground := Ground.phase }, { on := 7, ground := Ground.phase }, { on := 8, ground := Ground.phase }, { on := 9, ground := Ground.phase }, { on := 10, ground := Ground.phase }, { on := 11, ground := Ground.phase }, { on := 12, ground := Ground.phase }, { on := 13, ground := Ground.phase }, { on := 14, ground := Ground.phase }, { on := 15, ground := Ground.phase }, { on := 16, ground := Ground.phase }, { on := 17, ground := Ground.phase }, { on := 18, ground := Ground.phase }, { on := 19, ground := Ground.phase }, { on := 20, ground := Ground.phase }, { on := 21, ground := Ground.phase }, { on := 22, ground := Ground.phase }, { on := 23, ground := Ground.phase }], guard := none }) (v := .pointer (some ⟨gr, 0, none⟩)) rfl (by kernel_rfl) (by kernel_rfl) (by kernel_rfl) (by kernel_rfl) (fun _ _ _ h => h) (Or.inl ⟨by rfl, fun w hSw => by kernel_rfl⟩) (by assumption) ?_
  try simp only [Act.put, List.setIfInBounds_toArray, List.set_cons_zero, List.set_cons_succ]
  refine wpAnyU_last (o := { dst := none, op := Op.store 64 (Operand.tmp 42) (Operand.tmp 41), type := 0, pos := "grid.go:125", after := #[{ on := 24, ground := Ground.data }, { on := 23, ground := Ground.data }, { on := 0, ground := Ground.phase }, { on := 1, ground := Ground.phase }, { on := 2, ground := Ground.phase }, { on := 3, ground := Ground.phase }, { on := 4, ground := Ground.phase }, { on := 5, ground := Ground.phase }, { on := 6, ground := Ground.phase }, { on := 7, ground := Ground.phase }, { on := 8, ground := Ground.phase }, { on := 9, ground := Ground.phase }, { on := 10, ground := Ground.phase }, { on := 11, ground := Ground.phase }, { on := 12, ground := Ground.phase }, { on := 13, ground := Ground.phase }, { on := 14, ground := Ground.phase }, { on := 15, ground := Ground.phase }, { on := 16, ground := Ground.phase }, { on := 17, ground := Ground.phase }, { on := 18, ground := Ground.phase }, { on := 19, ground := Ground.phase }, { on := 20, ground := Ground.phase }, { on := 21, ground := Ground.phase }, { on := 22, ground := Ground.phase }, { on := 23, ground := Ground.phase }], guard := none }) (by kernel_rfl) rfl (by kernel_rfl) (fun K hK => ?_)
  go_simp
  skip
  refine hK.out _ _ ?_
  clear hK K
  try simp only [Act.put, List.setIfInBounds_toArray, List.set_cons_zero, List.set_cons_succ]
  refine NoPanic.normal ?_
  try rw [hW1]
  clear kc ke nc ne k1 k2 kf
  clear hW1 kA
  go_upto_region 4 with fail
  replace kA1 := (Blk.drew kA1)
  replace own1 := own_drew own1
  replace bb1 : ∀ B, B ≤ base → Below B w w1.drew := fun B hB => (bb1 B hB).drew
  replace kh1 : ∀ k, k < base → w1.drew.heap[k]? = w.heap[k]? := kh1
  replace hz1 : w1.drew.heap.size = w.heap.size := hz1
  clear kN1
  generalize w1.drew = w1 at *
  have ⟨kc, ke⟩ := kA1.rules
  have kA2 := kA1.set_ 8 (.bool false)
  have hz2 : (w1.setCell ⟨g, 8, none⟩ (.bool false)).heap.size = w.heap.size := by rw [World.size_setCell]; exact hz1
  have kh2 : ∀ k, k < base → k ≠ g → (w1.setCell ⟨g, 8, none⟩ (.bool false)).heap[k]? = w.heap[k]? := fun k hk hne => (Below.heap_setCell w1 ⟨g, 8, none⟩ _ k hne).trans (kh1 k hk)
  have bb2 : ∀ B, B ≤ g → B ≤ base → Below B w (w1.setCell ⟨g, 8, none⟩ (.bool false)) := fun B h1 h2 => (bb1 B h2).setCell h1 _
  have own2 := own_setBlk own1 kA1 (by decide) 8 (.bool false)
  simp only [List.setIfInBounds_toArray, List.set_cons_zero, List.set_cons_succ] at kA2
  refine wp_region_noPanic ?_
  refine wp_region_until (S := (fun w' : World => w'.cell? ⟨g, 0, none⟩ = some (.int .i64 2) ∧ w'.cell? ⟨g, 3, none⟩ = some (.int .i64 0) ∧ w'.cell? ⟨g, 9, none⟩ = some (.bool true))) 19 (by kernel_rfl) (by (try dsimp only); exact ⟨kc 0, kc 3, kc 9⟩) (fun hHeld => ?_)
  refine wpAnyU_take (i := 0) (oi := { dst := some 43, op := Op.move (Operand.tmp 0), type := 95, pos := "grid.go:126", after := #[], guard := none }) (v := ?_) rfl (by kernel_rfl) (by kernel_rfl) (by kernel_rfl) (by kernel_rfl) (fun _ _ _ h => h) (Or.inl ⟨by rfl, ?_⟩) (by assumption) ?_
  rotate_left
  · (intro w hSw; (try dsimp only at hSw); go_simp); (try with_reducible rfl)
  try simp only [Act.put, List.setIfInBounds_toArray, List.set_cons_zero, List.set_cons_succ]
  refine wpAnyU_take (i := 1) (oi := { dst := some 44, op := Op.move (Operand.tmp 0), type := 95, pos := "grid.go:126", after := #[], guard := none }) (v := ?_) rfl (by kernel_rfl) (by kernel_rfl) (by kernel_rfl) (by kernel_rfl) (fun _ _ _ h => h) (Or.inl ⟨by rfl, ?_⟩) (by assumption) ?_
  rotate_left
  · (intro w hSw; (try dsimp only at hSw); go_simp); (try with_reducible rfl)
  try simp only [Act.put, List.setIfInBounds_toArray, List.set_cons_zero, List.set_cons_succ]
  refine wpAnyU_take (i := 2) (oi := { dst := some 45, op := Op.nilCheck (Operand.tmp 44), type := 0, pos := "grid.go:126", after := #[{ on := 1, ground := Ground.data }], guard := none }) (v := ?_) rfl (by kernel_rfl) (by kernel_rfl) (by kernel_rfl) (by kernel_rfl) (fun _ _ _ h => h) (Or.inl ⟨by rfl, ?_⟩) (by assumption) ?_
  rotate_left
  · (intro w hSw; (try dsimp only at hSw); go_simp); (try with_reducible rfl)
  try simp only [Act.put, List.setIfInBounds_toArray, List.set_cons_zero, List.set_cons_succ]
  refine wpAnyU_take (i := 3) (oi := { dst := some 46, op := Op.fieldAddr 35 (Operand.tmp 45) 3, type := 0, pos := "grid.go:126", after := #[{ on := 2, ground := Ground.data }], guard := none }) (v := ?_) rfl (by kernel_rfl) (by kernel_rfl) (by kernel_rfl) (by kernel_rfl) (fun _ _ _ h => h) (Or.inl ⟨by rfl, ?_⟩) (by assumption) ?_
  rotate_left
  · (intro w hSw; (try dsimp only at hSw); go_simp); (try with_reducible rfl)
  try simp only [Act.put, List.setIfInBounds_toArray, List.set_cons_zero, List.set_cons_succ]
  refine wpAnyU_take (i := 4) (oi := { dst := some 47, op := Op.load 3 (Operand.tmp 46), type := 3, pos := "grid.go:126", after := #[{ on := 3, ground := Ground.data }], guard := none }) (v := ?_) rfl (by kernel_rfl) (by kernel_rfl) (by kernel_rfl) (by kernel_rfl) (fun _ _ _ h => h) (Or.inl ⟨by rfl, ?_⟩) (by assumption) ?_
  rotate_left
  · (intro w hSw; (try dsimp only at hSw); go_simp); (try with_reducible rfl)
  try simp only [Act.put, List.setIfInBounds_toArray, List.set_cons_zero, List.set_cons_succ]
  refine wpAnyU_take (i := 5) (oi := { dst := some 48, op := Op.move (Operand.tmp 0), type := 95, pos := "grid.go:126", after := #[], guard := none }) (v := ?_) rfl (by kernel_rfl) (by kernel_rfl) (by kernel_rfl) (by kernel_rfl) (fun _ _ _ h => h) (Or.inl ⟨by rfl, ?_⟩) (by assumption) ?_
  rotate_left
  · (intro w hSw; (try dsimp only at hSw); go_simp); (try with_reducible rfl)
  try simp only [Act.put, List.setIfInBounds_toArray, List.set_cons_zero, List.set_cons_succ]
  refine wpAnyU_take (i := 6) (oi := { dst := some 49, op := Op.nilCheck (Operand.tmp 48), type := 0, pos := "grid.go:126", after := #[{ on := 5, ground := Ground.data }], guard := none }) (v := ?_) rfl (by kernel_rfl) (by kernel_rfl) (by kernel_rfl) (by kernel_rfl) (fun _ _ _ h => h) (Or.inl ⟨by rfl, ?_⟩) (by assumption) ?_
  rotate_left
  · (intro w hSw; (try dsimp only at hSw); go_simp); (try with_reducible rfl)
  try simp only [Act.put, List.setIfInBounds_toArray, List.set_cons_zero, List.set_cons_succ]
  refine wpAnyU_take (i := 7) (oi := { dst := some 50, op := Op.fieldAddr 35 (Operand.tmp 49) 0, type := 0, pos := "grid.go:126", after := #[{ on := 6, ground := Ground.data }], guard := none }) (v := ?_) rfl (by kernel_rfl) (by kernel_rfl) (by kernel_rfl) (by kernel_rfl) (fun _ _ _ h => h) (Or.inl ⟨by rfl, ?_⟩) (by assumption) ?_
  rotate_left
  · (intro w hSw; (try dsimp only at hSw); go_simp); (try with_reducible rfl)
  try simp only [Act.put, List.setIfInBounds_toArray, List.set_cons_zero, List.set_cons_succ]
  refine wpAnyU_take (i := 8) (oi := { dst := some 51, op := Op.load 3 (Operand.tmp 50), type := 3, pos := "grid.go:126", after := #[{ on := 7, ground := Ground.data }], guard := none }) (v := ?_) rfl (by kernel_rfl) (by kernel_rfl) (by kernel_rfl) (by kernel_rfl) (fun _ _ _ h => h) (Or.inl ⟨by rfl, ?_⟩) (by assumption) ?_
  rotate_left
  · (intro w hSw; (try dsimp only at hSw); go_simp); (try with_reducible rfl)
  try simp only [Act.put, List.setIfInBounds_toArray, List.set_cons_zero, List.set_cons_succ]
  refine wpAnyU_take (i := 9) (oi := { dst := some 52, op := Op.binOp BinOp.sub 3 (Operand.tmp 51) (Operand.const (Value.int IntKind.i64 1)) 3, type := 3, pos := "grid.go:126", after := #[{ on := 8, ground := Ground.data }], guard := none }) (v := .int .i64 1) rfl (by kernel_rfl) (by kernel_rfl) (by kernel_rfl) (by kernel_rfl) (fun _ _ _ h => h) (Or.inl ⟨by rfl, fun w hSw => by kernel_rfl⟩) (by assumption) ?_
  try simp only [Act.put, List.setIfInBounds_toArray, List.set_cons_zero, List.set_cons_succ]
  refine wpAnyU_take (i := 10) (oi := { dst := some 53, op := Op.binOp BinOp.eql 3 (Operand.tmp 47) (Operand.tmp 52) 3, type := 4, pos := "grid.go:126", after := #[{ on := 4, ground := Ground.data }, { on := 9, ground := Ground.data }], guard := none }) (v := .bool false) rfl (by kernel_rfl) (by kernel_rfl) (by kernel_rfl) (by kernel_rfl) (fun _ _ _ h => h) (Or.inl ⟨by rfl, fun w hSw => by kernel_rfl⟩) (by assumption) ?_
  try simp only [Act.put, List.setIfInBounds_toArray, List.set_cons_zero, List.set_cons_succ]
  refine wpAnyU_take (i := 11) (oi := { dst := some 54, op := Op.move (Operand.tmp 53), type := 4, pos := "grid.go:126", after := #[{ on := 10, ground := Ground.data }], guard := none }) (v := ?_) rfl (by kernel_rfl) (by kernel_rfl) (by kernel_rfl) (by kernel_rfl) (fun _ _ _ h => h) (Or.inl ⟨by rfl, ?_⟩) (by assumption) ?_
  rotate_left
  · (intro w hSw; (try dsimp only at hSw); go_simp); (try with_reducible rfl)
  try simp only [Act.put, List.setIfInBounds_toArray, List.set_cons_zero, List.set_cons_succ]
  refine wpAnyU_take (i := 12) (oi := { dst := some 55, op := Op.move (Operand.tmp 0), type := 95, pos := "grid.go:126", after := #[{ on := 11, ground := Ground.guard }], guard := some (11, true) }) (v := undef) rfl (by kernel_rfl) (by kernel_rfl) (by kernel_rfl) (by kernel_rfl) (fun _ _ _ h => h) (Or.inr ⟨by rfl, rfl⟩) (by assumption) ?_
  try simp only [Act.put, List.setIfInBounds_toArray, List.set_cons_zero, List.set_cons_succ]
  refine wpAnyU_take (i := 13) (oi := { dst := some 56, op := Op.nilCheck (Operand.tmp 55), type := 0, pos := "grid.go:126", after := #[{ on := 12, ground := Ground.data }, { on := 11, ground := Ground.guard }], guard := some (11, true) }) (v := undef) rfl (by kernel_rfl) (by kernel_rfl) (by kernel_rfl) (by kernel_rfl) (fun _ _ _ h => h) (Or.inr ⟨by rfl, rfl⟩) (by assumption) ?_
  try simp only [Act.put, List.setIfInBounds_toArray, List.set_cons_zero, List.set_cons_succ]
  refine wpAnyU_take (i := 14) (oi := { dst := some 57, op := Op.fieldAddr 35 (Operand.tmp 56) 9, type := 0, pos := "grid.go:126", after := #[{ on := 13, ground := Ground.data }, { on := 11, ground := Ground.guard }], guard := some (11, true) }) (v := undef) rfl (by kernel_rfl) (by kernel_rfl) (by kernel_rfl) (by kernel_rfl) (fun _ _ _ h => h) (Or.inr ⟨by rfl, rfl⟩) (by assumption) ?_
  try simp only [Act.put, List.setIfInBounds_toArray, List.set_cons_zero, List.set_cons_succ]
  refine wpAnyU_take (i := 15) (oi := { dst := some 58, op := Op.load 4 (Operand.tmp 57), type := 4, pos := "grid.go:126", after := #[{ on := 14, ground := Ground.data }, { on := 11, ground := Ground.guard }], guard := some (11, true) }) (v := undef) rfl (by kernel_rfl) (by kernel_rfl) (by kernel_rfl) (by kernel_rfl) (fun _ _ _ h => h) (Or.inr ⟨by rfl, rfl⟩) (by assumption) ?_
  try simp only [Act.put, List.setIfInBounds_toArray, List.set_cons_zero, List.set_cons_succ]
  refine wpAnyU_take (i := 16) (oi := { dst := some 59, op := Op.pick (Operand.tmp 54) (Operand.tmp 58) (Operand.const (Value.bool false)), type := 4, pos := "grid.go:126", after := #[{ on := 11, ground := Ground.data }, { on := 15, ground := Ground.data }], guard := none }) (v := ?_) rfl (by kernel_rfl) (by kernel_rfl) (by kernel_rfl) (by kernel_rfl) (fun _ _ _ h => h) (Or.inl ⟨by rfl, ?_⟩) (by assumption) ?_
  rotate_left
  · (intro w hSw; (try dsimp only at hSw); go_simp); (try with_reducible rfl)
  try simp only [Act.put, List.setIfInBounds_toArray, List.set_cons_zero, List.set_cons_succ]
  refine wpAnyU_one (i := 17) (o := { dst := some 60, op := Op.nilCheck (Operand.tmp 43), type := 0, pos := "grid.go:126", after := #[{ on := 0, ground := Ground.data }, { on := 0, ground := Ground.phase }, { on := 1, ground := Ground.phase }, { on := 2, ground := Ground.phase }, { on := 3, ground := Ground.phase }, { on := 4, ground := Ground.phase }, { on := 5, ground := Ground.phase }, { on := 6, ground := Ground.phase }, { on := 7, ground := Ground.phase }, { on := 8, ground := Ground.phase }, { on := 9, ground := Ground.phase }, { on := 10, ground := Ground.phase }, { on := 11, ground := Ground.phase }, { on := 12, ground := Ground.phase }, { on := 13, ground := Ground.phase }, { on := 14, ground := Ground.phase }, { on := 15, ground := Ground.phase }, { on := 16, ground := Ground.phase }], guard := none }) (by kernel_rfl) rfl (fun K hK => ?_)
  go_simp
  skip
  refine hK.out _ _ (by (try dsimp only); exact ⟨kc 0, kc 3, kc 9⟩) (fun hHeld => ?_)
  clear hK K
  try simp only [Act.put, List.setIfInBounds_toArray, List.set_cons_zero, List.set_cons_succ]
  refine wpAnyU_take (i := 18) (oi := { dst := some 61, op := Op.fieldAddr 35 (Operand.tmp 60) 8, type := 0, pos := "grid.go:126", after := #[{ on := 17, ground := Ground.data }, { on := 0, ground := Ground.phase }, { on := 1, ground := Ground.phase }, { on := 2, ground := Ground.phase }, { on := 3, ground := Ground.phase }, { on := 4, ground := Ground.phase }, { on := 5, ground := Ground.phase }, { on := 6, ground := Ground.phase }, { on := 7, ground := Ground.phase }, { on := 8, ground := Ground.phase }, { on := 9, ground := Ground.phase }, { on := 10, ground := Ground.phase }, { on := 11, ground := Ground.phase }, { on := 12, ground := Ground.phase }, { on := 13, ground := Ground.phase }, { on := 14, ground := Ground.phase }, { on := 15, ground := Ground.phase }, { on := 16, ground := Ground.phase }], guard := none }) (v := ?_) rfl (by kernel_rfl) (by kernel_rfl) (by kernel_rfl) (by kernel_rfl) (fun _ _ _ h => h) (Or.inl ⟨by rfl, ?_⟩) (by assumption) ?_
  rotate_left
  · (intro w hSw; (try dsimp only at hSw); go_simp); (try with_reducible rfl)
  try simp only [Act.put, List.setIfInBounds_toArray, List.set_cons_zero, List.set_cons_succ]
  refine wpAnyU_last (o := { dst := none, op := Op.store 4 (Operand.tmp 61) (Operand.tmp 59), type := 0, pos := "grid.go:126", after := #[{ on := 18, ground := Ground.data }, { on := 16, ground := Ground.data }, { on := 11, ground := Ground.chain }, { on := 0, ground := Ground.phase }, { on := 1, ground := Ground.phase }, { on := 2, ground := Ground.phase }, { on := 3, ground := Ground.phase }, { on := 4, ground := Ground.phase }, { on := 5, ground := Ground.phase }, { on := 6, ground := Ground.phase }, { on := 7, ground := Ground.phase }, { on := 8, ground := Ground.phase }, { on := 9, ground := Ground.phase }, { on := 10, ground := Ground.phase }, { on := 11, ground := Ground.phase }, { on := 12, ground := Ground.phase }, { on := 13, ground := Ground.phase }, { on := 14, ground := Ground.phase }, { on := 15, ground := Ground.phase }, { on := 16, ground := Ground.phase }], guard := none }) (by kernel_rfl) rfl (by kernel_rfl) (fun K hK => ?_)
  go_simp
  skip
  refine hK.out _ _ ?_
  clear hK K
  try simp only [Act.put, List.setIfInBounds_toArray, List.set_cons_zero, List.set_cons_succ]
  refine NoPanic.normal ?_
  clear kc ke kA1 own1 bb1 kh1 hz1
  go_upto_region 5 with fail
  replace kA2 := (Blk.drew kA2)
  replace own2 := own_drew own2
  replace bb2 : ∀ B, B ≤ g → B ≤ base → Below B w (w1.setCell ⟨g, 8, none⟩ (.bool false)).drew := fun B h1 h2 => (bb2 B h1 h2).drew
  replace kh2 : ∀ k, k < base → k ≠ g → (w1.setCell ⟨g, 8, none⟩ (.bool false)).drew.heap[k]? = w.heap[k]? := kh2
  replace hz2 : (w1.setCell ⟨g, 8, none⟩ (.bool false)).drew.heap.size = w.heap.size := hz2
  generalize (w1.setCell ⟨g, 8, none⟩ (.bool false)).drew = w2 at *
  have ⟨kc, ke⟩ := kA2.rules
  refine wp_region_noPanic ?_
  refine wp_region_held_drew (S := (fun w' : World => w'.cell? ⟨g, 0, none⟩ = some (.int .i64 2) ∧ w'.cell? ⟨g, 3, none⟩ = some (.int .i64 0) ∧ w'.cell? ⟨g, 9, none⟩ = some (.bool true))) (by kernel_rfl) (by (try dsimp only); exact ⟨kc 0, kc 3, kc 9⟩) (fun hHeld => ?_)
  refine wpAnyH_take (i := 0) (oi := { dst := some 62, op := Op.move (Operand.tmp 0), type := 95, pos := "grid.go:126", after := #[], guard := none }) (v := ?_) rfl (by kernel_rfl) (by kernel_rfl) (by kernel_rfl) (fun _ _ _ h => h) (Or.inl ⟨by rfl, ?_⟩) (by assumption) ?_
  rotate_left
  · (intro w hSw; (try dsimp only at hSw); go_simp); (try with_reducible rfl)
  try simp only [Act.put, List.setIfInBounds_toArray, List.set_cons_zero, List.set_cons_succ]
  refine wpAnyH_take (i := 1) (oi := { dst := some 63, op := Op.nilCheck (Operand.tmp 62), type := 0, pos := "grid.go:126", after := #[{ on := 0, ground := Ground.data }], guard := none }) (v := ?_) rfl (by kernel_rfl) (by kernel_rfl) (by kernel_rfl) (fun _ _ _ h => h) (Or.inl ⟨by rfl, ?_⟩) (by assumption) ?_
  rotate_left
  · (intro w hSw; (try dsimp only at hSw); go_simp); (try with_reducible rfl)
  try simp only [Act.put, List.setIfInBounds_toArray, List.set_cons_zero, List.set_cons_succ]
  refine wpAnyH_take (i := 2) (oi := { dst := some 64, op := Op.fieldAddr 35 (Operand.tmp 63) 3, type := 0, pos := "grid.go:126", after := #[{ on := 1, ground := Ground.data }], guard := none }) (v := ?_) rfl (by kernel_rfl) (by kernel_rfl) (by kernel_rfl) (fun _ _ _ h => h) (Or.inl ⟨by rfl, ?_⟩) (by assumption) ?_
  rotate_left
  · (intro w hSw; (try dsimp only at hSw); go_simp); (try with_reducible rfl)
  try simp only [Act.put, List.setIfInBounds_toArray, List.set_cons_zero, List.set_cons_succ]
  refine wpAnyH_take (i := 3) (oi := { dst := some 65, op := Op.load 3 (Operand.tmp 64), type := 3, pos := "grid.go:126", after := #[{ on := 2, ground := Ground.data }], guard := none }) (v := ?_) rfl (by kernel_rfl) (by kernel_rfl) (by kernel_rfl) (fun _ _ _ h => h) (Or.inl ⟨by rfl, ?_⟩) (by assumption) ?_
  rotate_left
  · (intro w hSw; (try dsimp only at hSw); go_simp); (try with_reducible rfl)
  try simp only [Act.put, List.setIfInBounds_toArray, List.set_cons_zero, List.set_cons_succ]
  refine wpAnyH_take (i := 4) (oi := { dst := some 66, op := Op.move (Operand.tmp 0), type := 95, pos := "grid.go:126", after := #[], guard := none }) (v := ?_) rfl (by kernel_rfl) (by kernel_rfl) (by kernel_rfl) (fun _ _ _ h => h) (Or.inl ⟨by rfl, ?_⟩) (by assumption) ?_
  rotate_left
  · (intro w hSw; (try dsimp only at hSw); go_simp); (try with_reducible rfl)
  try simp only [Act.put, List.setIfInBounds_toArray, List.set_cons_zero, List.set_cons_succ]
  refine wpAnyH_take (i := 5) (oi := { dst := some 67, op := Op.nilCheck (Operand.tmp 66), type := 0, pos := "grid.go:126", after := #[{ on := 4, ground := Ground.data }], guard := none }) (v := ?_) rfl (by kernel_rfl) (by kernel_rfl) (by kernel_rfl) (fun _ _ _ h => h) (Or.inl ⟨by rfl, ?_⟩) (by assumption) ?_
  rotate_left
  · (intro w hSw; (try dsimp only at hSw); go_simp); (try with_reducible rfl)
  try simp only [Act.put, List.setIfInBounds_toArray, List.set_cons_zero, List.set_cons_succ]
  refine wpAnyH_take (i := 6) (oi := { dst := some 68, op := Op.fieldAddr 35 (Operand.tmp 67) 0, type := 0, pos := "grid.go:126", after := #[{ on := 5, ground := Ground.data }], guard := none }) (v := ?_) rfl (by kernel_rfl) (by kernel_rfl) (by kernel_rfl) (fun _ _ _ h => h) (Or.inl ⟨by rfl, ?_⟩) (by assumption) ?_
  rotate_left
  · (intro w hSw; (try dsimp only at hSw); go_simp); (try with_reducible rfl)
  try simp only [Act.put, List.setIfInBounds_toArray, List.set_cons_zero, List.set_cons_succ]
  refine wpAnyH_take (i := 7) (oi := { dst := some 69, op := Op.load 3 (Operand.tmp 68), type := 3, pos := "grid.go:126", after := #[{ on := 6, ground := Ground.data }], guard := none }) (v := ?_) rfl (by kernel_rfl) (by kernel_rfl) (by kernel_rfl) (fun _ _ _ h => h) (Or.inl ⟨by rfl, ?_⟩) (by assumption) ?_
  rotate_left
  · (intro w hSw; (try dsimp only at hSw); go_simp); (try with_reducible rfl)
  try simp only [Act.put, List.setIfInBounds_toArray, List.set_cons_zero, List.set_cons_succ]
  refine wpAnyH_take (i := 8) (oi := { dst := some 70, op := Op.binOp BinOp.sub 3 (Operand.tmp 69) (Operand.const (Value.int IntKind.i64 1)) 3, type := 3, pos := "grid.go:126", after := #[{ on := 7, ground := Ground.data }], guard := none }) (v := .int .i64 1) rfl (by kernel_rfl) (by kernel_rfl) (by kernel_rfl) (fun _ _ _ h => h) (Or.inl ⟨by rfl, fun w hSw => by kernel_rfl⟩) (by assumption) ?_
  try simp only [Act.put, List.setIfInBounds_toArray, List.set_cons_zero, List.set_cons_succ]
  refine wpAnyH_take (i := 9) (oi := { dst := some 71, op := Op.binOp BinOp.lss 3 (Operand.tmp 65) (Operand.tmp 70) 3, type := 4, pos := "grid.go:126", after := #[{ on := 3, ground := Ground.data }, { on := 8, ground := Ground.data }], guard := none }) (v := .bool true) rfl (by kernel_rfl) (by kernel_rfl) (by kernel_rfl) (fun _ _ _ h => h) (Or.inl ⟨by rfl, fun w hSw => by kernel_rfl⟩) (by assumption) ?_
  try simp only [Act.put, List.setIfInBounds_toArray, List.set_cons_zero, List.set_cons_succ]
  refine wpAnyH_done (by kernel_rfl) ?_ _
  refine NoPanic.normal ?_
  have kA3 := (Blk.drew kA2).set_ 3 (.int .i64 1)
  have own3 := own_setBlk (own_drew own2) (Blk.drew kA2) (by decide) 3 (.int .i64 1)
  simp only [List.setIfInBounds_toArray, List.set_cons_zero, List.set_cons_succ] at kA3
  have F := Lib.hid (show Blk (w2.drew.setCell ⟨g, 3, none⟩ (.int .i64 1)) g 35 #[.int .i64 2, .int .i64 1, .slice (some ⟨gr, 0, none⟩) 2 cc, .int .i64 1, .int .i64 0, .int .i64 0, .int .i64 0, .int .i64 0, .bool false, .bool true, .bool false, .bool false, .int .i64 0, .int .i64 0, .int .i64 0, .slice M 0 cm] ∧
      (w2.drew.setCell ⟨g, 3, none⟩ (.int .i64 1)).ownsRow base 64 2 (.slice (some ⟨gr, 0, none⟩) 2 cc) 2 (cCells [(120, 0), (32, 0)]) ∧ (w2.drew.setCell ⟨g, 3, none⟩ (.int .i64 1)).heap.size = w.heap.size ∧
      (∀ k, k < base → k ≠ g → (w2.drew.setCell ⟨g, 3, none⟩ (.int .i64 1)).heap[k]? = w.heap[k]?) ∧ ∀ B, B ≤ g → B ≤ base → Below B w (w2.drew.setCell ⟨g, 3, none⟩ (.int .i64 1)) from
    ⟨kA3, own3, by rw [World.size_setCell]; exact hz2, fun k hk hne => (Below.heap_setCell w2.drew ⟨g, 3, none⟩ _ k hne).trans (kh2 k hk hne), fun B h1 h2 => ((bb2 B h1 h2).drew).setCell h1 _⟩)
  clear kA3 own3 own2 kA2 bb2 kh2 hz2
  go_wp2_with fail
  exact ⟨rfl, .tuple #[], by simp [results, Try.results78, go_sem], rfl, F.out⟩

set_option maxHeartbeats 8000000 in
set_option maxRecDepth 100000 in
theorem putx_in {lo up h : Nat} {C M : Option Addr} {cc cm : Nat} {w : World} (hat : ScrAt w lo up sA C cc M cm) (hup : up ≤ w.heap.size) (kN : Blk w h 3 #[.int .i64 120]) :
    Calls Try.prog 69 #[.agg (sA.v C cc M cm), .func (.func 78) #[] #[.pointer (some ⟨h, 0, none⟩)]] w (RetS w sX) := by
  have HC := Lib.hid (fun W (b : Below w.heap.size w W) => check_ok (hat.below b hup) (Nat.le_trans hup b.size) ⟨by decide, by decide⟩ gOkA)
  obtain ⟨i0, hi0, hz0, hz1, hz2⟩ := info_parts info64
  obtain ⟨hc, hm⟩ := hat
  have HCL := Lib.hid (fun W (b : Below w.heap.size w W) => (show Calls Try.prog 98 #[.slice C 2 cc] W (RetC W sA.cs) from clonec_any (hc.below b hup) (Nat.le_trans hup b.size) (by decide)))
  have HMS := Lib.hid hm
  have HKN := Lib.hid (fun W (b : Below w.heap.size w W) => kN.later b)
  have hlt := kN.lt
  rw [sA_v] at HC ⊢
  clear hc hm kN
  have bb := ((Below.refl w.heap.size w).alloc (Nat.le_refl _) (.cells #[.int .i64 2, .int .i64 1, .slice C 2 cc, .int .i64 0, .int .i64 0, .int .i64 0, .int .i64 0, .int .i64 0, .bool false, .bool true, .bool false, .bool false, .int .i64 0, .int .i64 0, .int .i64 0, .slice M 0 cm] 35)).alloc (by simp) (.cells #[.int .i64 0, .int .i64 0, .slice none 0 0, .int .i64 0, .int .i64 0, .int .i64 0, .int .i64 0, .int .i64 0, .bool false, .bool false, .bool false, .bool false, .int .i64 0, .int .i64 0, .int .i64 0, .slice none 0 0] 35)
  have bs := (Blk.new w 35 #[.int .i64 2, .int .i64 1, .slice C 2 cc, .int .i64 0, .int .i64 0, .int .i64 0, .int .i64 0, .int .i64 0, .bool false, .bool true, .bool false, .bool false, .int .i64 0, .int .i64 0, .int .i64 0, .slice M 0 cm] rfl).alloc (.cells #[.int .i64 0, .int .i64 0, .slice none 0 0, .int .i64 0, .int .i64 0, .int .i64 0, .int .i64 0, .int .i64 0, .bool false, .bool false, .bool false, .bool false, .int .i64 0, .int .i64 0, .int .i64 0, .slice none 0 0] 35)
  have bz := Blk.new (w.alloc (.cells #[.int .i64 2, .int .i64 1, .slice C 2 cc, .int .i64 0, .int .i64 0, .int .i64 0, .int .i64 0, .int .i64 0, .bool false, .bool true, .bool false, .bool false, .int .i64 0, .int .i64 0, .int .i64 0, .slice M 0 cm] 35)) 35 #[.int .i64 0, .int .i64 0, .slice none 0 0, .int .i64 0, .int .i64 0, .int .i64 0, .int .i64 0, .int .i64 0, .bool false, .bool false, .bool false, .bool false, .int .i64 0, .int .i64 0, .int .i64 0, .slice none 0 0] (g := w.heap.size + 1) (by simp)
  go_enter Try.func69, Try.ntmps69
  go_wp2_with fail
  refine (HC.out _ bb).mono ?_
  rintro e w1 ⟨rfl, b1⟩
  have bz1 := bz.later b1
  have bs1 := bs.later b1
  have z1 : w.heap.size + 2 ≤ w1.heap.size := by have := b1.size; simp at this; omega
  have bb1 := bb.trans (b1.mono (by simp; omega))
  clear b1 bz bb bs
  have ⟨kc, ke⟩ := bs1.rules
  go_wp2_with fail
  refine (HCL.out _ bb1).mono ?_
  rintro e w2 ⟨C2, cc2, rfl, hown, b2⟩
  have bz2 := bz1.later b2
  have bs2 := bs1.later b2
  have z2 := b2.size
  have bb2 := bb1.trans (b2.mono (by omega))
  have hC2 := own_more hown (base' := w.heap.size + 2) (by omega)
  clear b2 bz1 bs1 kc ke hown bb1
  have bs3 := bs2.set_ 2 (.slice C2 2 cc2)
  have ⟨kc, ke⟩ := bs2.rules
  have bb3 := bb2.setCell (p := ⟨w.heap.size, 2, none⟩) (by simp) (.slice C2 2 cc2)
  have hC3 := own_setBlk hC2 bs2 (by decide) 2 (.slice C2 2 cc2)
  have hM3 := HMS.out.below bb3 hup
  have hup2 : up ≤ (w2.setCell ⟨w.heap.size, 2, none⟩ (.slice C2 2 cc2)).heap.size := by rw [World.size_setCell]; omega
  have hz3 : (w2.setCell ⟨w.heap.size, 2, none⟩ (.slice C2 2 cc2)).heap.size = w2.heap.size := World.size_setCell _ _ _
  have bz3 := bz2.far (p := ⟨w.heap.size, 2, none⟩) (by simp) (.slice C2 2 cc2)
  clear hC2 bb2
  go_wp2_with (at_builtin; refine wpList_append_sl _ rfl (.const (.slice none 0 0)) (.tmp 14) _ rfl (w.heap.size + 2) 64 i0 _ 2 16 Try.underlying32 hi0 hz0 hz1 hz2 rfl (by omega) (.slice none 0 0) 0 [] rfl (World.ownsRow_nil _ _ _ _) lo up _ 0 cm [] rfl hM3 (by simp) 0 (by omega) [] rfl (by unfold maxLen; omega) (by omega) (by rw [World.size_setCell]; omega) ?_; intro M2 cm2 w4 hown4 hg4; have bs4 := bs3.grown hg4 (by simp [Value.ownBlock]); have bz4 := bz3.grown hg4 (by simp [Value.ownBlock]); have ⟨kc4, ke4⟩ := bs4.rules)
  have own4 := own_below hC3 ((Below.refl _ _).grown hg4 (Nat.le_refl _) (fun g e => by simp [Value.ownBlock] at e)) (Nat.le_refl _)
  have bb4 := bb3.grown hg4 (by rw [World.size_setCell]; omega) (fun g e => by simp [Value.ownBlock] at e)
  have z4 : w2.heap.size ≤ w4.heap.size := by have := hg4.size; rwa [World.size_setCell] at this
  have HM4 := Lib.hid (Sl.of_own hown4)
  have bs5 : Blk (w4.setCell ⟨w.heap.size, 15, none⟩ (.slice M2 0 cm2)) w.heap.size 35 (sA.v C2 cc2 M2 cm2) := bs4.set_ 15 (.slice M2 0 cm2)
  have bz5 := bz4.far (p := ⟨w.heap.size, 15, none⟩) (by simp) (.slice M2 0 cm2)
  have bb5 := bb4.setCell (p := ⟨w.heap.size, 15, none⟩) (by simp) (.slice M2 0 cm2)
  have own5 := own_setBlk own4 bs4 (by decide) 15 (.slice M2 0 cm2)
  have z5 : w4.heap.size ≤ (w4.setCell ⟨w.heap.size, 15, none⟩ (.slice M2 0 cm2)).heap.size := by rw [World.size_setCell]; exact Nat.le_refl _
  have kN5 := HKN.out _ bb5
  clear kc ke kc4 ke4 bs4 bz4 bs3 bz3 bs2 bz2 bb4 hC3 hM3 hown4 hup2 bb3 hg4 own4 hz3
  generalize w4.setCell ⟨w.heap.size, 15, none⟩ (.slice M2 0 cm2) = W5 at *
  refine (putx_fn bs5 kN5 own5 (by omega) (by omega)).mono ?_
  rintro e w6 ⟨rfl, kX, ownX, zX, keepX, bX⟩
  have bz6 : Blk w6 (w.heap.size + 1) 35 #[.int .i64 0, .int .i64 0, .slice none 0 0, .int .i64 0, .int .i64 0, .int .i64 0, .int .i64 0, .int .i64 0, .bool false, .bool false, .bool false, .bool false, .int .i64 0, .int .i64 0, .int .i64 0, .slice none 0 0] := (keepX _ (by omega) (by omega)).trans bz5
  have bb6 := bb5.trans (bX _ (Nat.le_refl _) (by omega))
  rw [sX_v] at kX
  clear bs5 kN5 own5 keepX bX bz5 bb5
  obtain ⟨w7, hst, kR, g7, z7⟩ := scr_st bz6 rfl (sX.v C2 cc2 M2 cm2) rfl rfl
  have qX := bs16 kX rfl
  have hb7 := bb6.grown g7 (by omega) (fun k e => by cases e; omega)
  have own7 := own_keep ownX g7 (by omega)
  have F := Lib.hid (show RetS w sX (.returned (.agg (sX.v C2 cc2 M2 cm2))) w7 from ⟨C2, cc2, M2, cm2, rfl, ⟨(Sl.of_own own7).more (by omega) (by omega), HM4.out.zero⟩, hb7⟩)
  clear own7 bz6 ownX hb7
  go_wp2_with (first | ((with_reducible refine wpList_ld2 qX ?_ ?_); rfl) | ((with_reducible refine wpList_st2 hst ?_ ?_); exact ⟨rfl, rfl⟩))
  refine bodyPost_ret (results_cell1 rfl _ rfl kR rfl) rfl ?_
  exact F.out

set_option maxHeartbeats 4000000 in
set_option maxRecDepth 100000 in
theorem put_x {lo up : Nat} {C M : Option Addr} {cc cm : Nat} {w : World} (hat : ScrAt w lo up sA C cc M cm) (hup : up ≤ w.heap.size) :
    Calls Try.prog 40 #[.agg (sA.v C cc M cm), .int .i64 120] w (RetS w sX) := by
  have bb := (((Below.refl w.heap.size w).alloc (Nat.le_refl _) (.cells (sA.v C cc M cm) 35)).alloc (by simp) (.cells #[.int .i64 120] 3)).alloc (by simp; omega) (.cells #[.int .i64 0, .int .i64 0, .slice none 0 0, .int .i64 0, .int .i64 0, .int .i64 0, .int .i64 0, .int .i64 0, .bool false, .bool false, .bool false, .bool false, .int .i64 0, .int .i64 0, .int .i64 0, .slice none 0 0] 35)
  have kS := ((Blk.new w 35 (sA.v C cc M cm) rfl).alloc (.cells #[.int .i64 120] 3)).alloc (.cells #[.int .i64 0, .int .i64 0, .slice none 0 0, .int .i64 0, .int .i64 0, .int .i64 0, .int .i64 0, .int .i64 0, .bool false, .bool false, .bool false, .bool false, .int .i64 0, .int .i64 0, .int .i64 0, .slice none 0 0] 35)
  have kN := ((Blk.new (w.alloc (.cells (sA.v C cc M cm) 35)) 3 #[.int .i64 120] (g := w.heap.size + 1) (by simp)).alloc (.cells #[.int .i64 0, .int .i64 0, .slice none 0 0, .int .i64 0, .int .i64 0, .int .i64 0, .int .i64 0, .int .i64 0, .bool false, .bool false, .bool false, .bool false, .int .i64 0, .int .i64 0, .int .i64 0, .slice none 0 0] 35))
  have kR := Blk.new ((w.alloc (.cells (sA.v C cc M cm) 35)).alloc (.cells #[.int .i64 120] 3)) 35 #[.int .i64 0, .int .i64 0, .slice none 0 0, .int .i64 0, .int .i64 0, .int .i64 0, .int .i64 0, .int .i64 0, .bool false, .bool false, .bool false, .bool false, .int .i64 0, .int .i64 0, .int .i64 0, .slice none 0 0] (g := w.heap.size + 2) (by simp)
  have hs16 : (sA.v C cc M cm).size = 16 := rfl
  have HAt := Lib.hid (hat.below bb hup)
  clear hat
  generalize hcs : sA.v C cc M cm = cs at *
  have Hcs := Lib.hid hcs
  clear hcs
  go_enter Try.func40, Try.ntmps40
  go_upto_region 1 with fail
  generalize ((w.alloc (.cells cs 35)).alloc (.cells #[.int .i64 120] 3)).alloc (.cells #[.int .i64 0, .int .i64 0, .slice none 0 0, .int .i64 0, .int .i64 0, .int .i64 0, .int .i64 0, .int .i64 0, .bool false, .bool false, .bool false, .bool false, .int .i64 0, .int .i64 0, .int .i64 0, .slice none 0 0] 35) = w0 at *
  have ⟨kc, kf⟩ := kN.rules
  have qS := bs16 kS hs16
  go_wp2_with fail
  refine (within_any _ _ _ _).mono ?_
  rintro e w1 ⟨rfl, rfl⟩
  rw [show inB 120 32 1114111 = true from rfl]
  have z1 := kR.lt
  have HP := Lib.hid (putx_in HAt.out (by have := bb.size; omega) kN)
  rw [Hcs.out] at HP
  clear kc kf
  go_wp2_with (first | ((with_reducible refine wpList_ld2 qS ?_ ?_); rfl))
  refine HP.out.mono ?_
  rintro e w2 ⟨C2, cc2, M2, cm2, rfl, hat2, b2⟩
  have kR2 := kR.later b2
  have z2 := b2.size
  have bb2 := bb.trans (b2.mono bb.size)
  obtain ⟨w3, hst, kR3, g3, z3⟩ := scr_st kR2 rfl (sX.v C2 cc2 M2 cm2) rfl rfl
  have F := Lib.hid (show RetS w sX (.returned (.agg (sX.v C2 cc2 M2 cm2))) w3 from ⟨C2, cc2, M2, cm2, rfl, (hat2.grown g3 (Nat.le_refl _) (fun k e => by cases e; exact .inl (by omega))).more (by omega) (by omega), bb2.grown g3 (by omega) (fun k e => by cases e; omega)⟩)
  clear hat2 bb2 b2 kR2 HP
  go_wp2_with (first | ((with_reducible refine wpList_st2 hst ?_ ?_); exact ⟨rfl, rfl⟩))
  refine bodyPost_ret (results_cell1 rfl _ rfl kR3 rfl) rfl ?_
  exact F.out
end Go.Proofs.Ytfeeincglijmjaa
