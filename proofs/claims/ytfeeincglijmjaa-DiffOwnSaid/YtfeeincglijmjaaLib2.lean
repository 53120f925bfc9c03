/- Laws on a row of the callee's own that is written in place: copy, clear, append within its room, for elements of any number of cells; over any program. -/
import Derived.Test.YtfeeincglijmjaaLib
import Derived.Lib.SliceRun
import Derived.Laws.IdiomCopy
import Derived.Deep.RegionLaw
import Derived.Lib.AppendZerosOnto
import Derived.Laws.NewBlocks
namespace Go.Proofs.Ytfeeincglijmjaa
open Go.RowKit
set_option linter.unusedVariables false
set_option linter.unusedSimpArgs false

theorem take_mid (p d : List Value) (v : Value) : (p ++ v :: d).take (p.length + 1) = p ++ [v] := by
  rw [List.append_cons, show p.length + 1 = (p ++ [v]).length from by simp]
  exact List.take_left
theorem drop_mid (p d : List Value) (v : Value) (k : Nat) : (p ++ v :: d).drop (p.length + 1 + k) = d.drop k := by
  rw [List.append_cons, show p.length + 1 + k = (p ++ [v]).length + k from by simp, List.drop_append]
  simp
/-- A row behind the storing of cells from a place on. -/
theorem setCells_row {t : TypeId} {fr : Nat × Nat} (g : Nat) : ∀ (vs : List Value) (o : Nat) (w : World) (cur : Array Value), w.heap[g]? = some (.cells cur t fr) → o + vs.length ≤ cur.size →
    ∃ cur' : Array Value, (w.setCells g o vs).heap[g]? = some (.cells cur' t fr) ∧ cur'.toList = cur.toList.take o ++ vs ++ cur.toList.drop (o + vs.length)
  | [], o, w, cur, h, _ => ⟨cur, h, by simp⟩
  | v :: r, o, w, cur, h, hl => by
    have hl' : o + 1 + r.length ≤ cur.size := by simp only [List.length_cons] at hl; omega
    have h1 : (w.setCell ⟨g, o, none⟩ v).heap[g]? = some (.cells (cur.setIfInBounds o v) t fr) := by simp [World.setCell, Array.getElem?_modify, h]
    obtain ⟨cur', h2, h3⟩ := setCells_row g r (o + 1) _ _ h1 (by simpa using hl')
    refine ⟨cur', h2, ?_⟩
    have ho : o < cur.toList.length := by rw [Array.length_toList]; omega
    have hlt : (cur.toList.take o).length = o := by rw [List.length_take]; omega
    have e : (cur.setIfInBounds o v).toList = cur.toList.take o ++ v :: cur.toList.drop (o + 1) := by
      rw [Array.toList_setIfInBounds, List.set_eq_take_append_cons_drop, if_pos ho]
    have t1 := take_mid (cur.toList.take o) (cur.toList.drop (o + 1)) v
    have t2 := drop_mid (cur.toList.take o) (cur.toList.drop (o + 1)) v r.length
    rw [hlt] at t1 t2
    rw [h3, e, t1, t2, List.drop_drop, show o + 1 + r.length = o + (v :: r).length from by simp only [List.length_cons]; omega]
    simp
theorem grownBy_setCells (g : Nat) : ∀ (vs : List Value) (o : Nat) (w : World), w.grownBy (w.setCells g o vs) (some g)
  | [], o, w => ⟨rfl, rfl, rfl, Nat.le_refl _, fun _ _ _ => rfl⟩
  | v :: r, o, w => by
    have h := grownBy_setCells g r (o + 1) (w.setCell ⟨g, o, none⟩ v)
    exact ⟨h.os, h.tape, h.output, by have := h.size; rw [World.setCells]; simpa using this, fun k hk hne => by
      rw [World.setCells, h.block k (by simpa using hk) hne]
      exact Below.heap_setCell w ⟨g, o, none⟩ v k (fun e => hne (by rw [e]))⟩
theorem grownBy_trans {w w1 w2 : World} {row : Option Nat} (h : w.grownBy w1 row) (h2 : w1.grownBy w2 row) : w.grownBy w2 row :=
  ⟨h2.os.trans h.os, h2.tape.trans h.tape, h2.output.trans h.output, Nat.le_trans h.size h2.size, fun k hk hne => (h2.block k (Nat.lt_of_lt_of_le hk h.size) hne).trans (h.block k hk hne)⟩
theorem grownBy_refl (w : World) (row : Option Nat) : w.grownBy w row := ⟨rfl, rfl, rfl, Nat.le_refl _, fun _ _ _ => rfl⟩
theorem grownBy_drew {w w1 : World} {row : Option Nat} (h : w.grownBy w1 row) : w.grownBy w1.drew row := ⟨h.os, h.tape, h.output, h.size, h.block⟩
theorem grownBy_drewN {w w1 : World} {row : Option Nat} (h : w.grownBy w1 row) (k : Nat) : w.grownBy (w1.drewN k) row := ⟨h.os, h.tape, h.output, h.size, h.block⟩
theorem grownBy_below {w w1 : World} {row : Option Nat} {B : Nat} (h : Below B w w1) (hB : w.heap.size ≤ B) : w.grownBy w1 row :=
  ⟨h.os, h.tape, h.output, h.size, fun k hk _ => h.block k (by omega)⟩

/-- A row that is the callee's own, with elements in it, taken apart. -/
theorem own_split {w : World} {base s n c : Nat} {e : TypeId} {A : Option Addr} {xs : List Value} (h : w.ownsRow base e s (.slice A n c) n xs) (hn : 0 < n) :
    ∃ g cur, A = some ⟨g, 0, none⟩ ∧ base ≤ g ∧ w.heap[g]? = some (.cells cur e (0, 0)) ∧ n ≤ c ∧ c ≤ maxLen ∧ cur.size = c * s ∧ cur.toList.take (n * s) = xs := by
  rcases h.2 with ⟨_, h0⟩ | ⟨g, cap, cur, hv, hb, hg, hnc, hcm, hcs, ht⟩
  · omega
  · injection hv with hA _ hc
    subst hA hc
    exact ⟨g, cur, rfl, hb, hg, hnc, hcm, hcs, ht⟩
theorem own_mk {w : World} {base s n c g : Nat} {e : TypeId} {cur : Array Value} {xs : List Value} (hb : base ≤ g) (hg : w.heap[g]? = some (.cells cur e (0, 0))) (hnc : n ≤ c) (hcm : c ≤ maxLen) (hcs : cur.size = c * s) (ht : cur.toList.take (n * s) = xs) :
    w.ownsRow base e s (.slice (some ⟨g, 0, none⟩) n c) n xs :=
  ⟨by rw [← ht, List.length_take, Array.length_toList, hcs]; exact Nat.min_eq_left (Nat.mul_le_mul_right _ hnc), .inr ⟨g, c, cur, rfl, hb, hg, hnc, hcm, hcs, ht⟩⟩
theorem row_cell {w : World} {g : Nat} {e : TypeId} {cur : Array Value} (hg : w.heap[g]? = some (.cells cur e (0, 0))) (j : Nat) (hj : j < cur.size) : (w.cell? ⟨g, j, none⟩).isSome = true ∧ w.frozen? ⟨g, j, none⟩ = false := by
  refine ⟨?_, by simp [World.frozen?, hg]⟩
  rw [cell_of_row w g j cur e (0, 0) hg, Array.getElem?_eq_getElem hj]
  rfl

section
variable {P : Program}
theorem run_copy_sized (w : World) (dT sT ty elem : TypeId) (size : Nat) (b o dLen dCap : Nat) (a : Addr) (sLen sCap : Nat) (cs : List Value)
    (hu : P.underlying dT = some (.slice elem)) (hs : (P.info? elem).map (·.size) = some size) (hn : cs.length = Nat.min sLen dLen * size)
    (hsrc : ∀ j v, cs[j]? = some v → w.cell? (a.add j) = some v) (hc : ∀ j, j < cs.length → (w.cell? ⟨b, o + j, none⟩).isSome = true) (hf : ∀ j, j < cs.length → w.frozen? ⟨b, o + j, none⟩ = false) (h1 : ∀ v ∈ cs, v.oneCell' = true) :
    (Builtin.copy_ #[dT, sT] ty #[.slice (some ⟨b, o, none⟩) dLen dCap, .slice (some a) sLen sCap]).run P w = .ok (goInt (Nat.min sLen dLen)) (w.setCells b o cs) := by
  have hl := run_loadCells_list (P := P) w a cs hsrc
  have hst := run_storeCells_cells (P := P) b o cs 0 w (by simpa using hc) (by simpa using hf) h1
  cases hq : P.info? elem with
  | none => simp [hq] at hs
  | some i =>
    have hi : i.size = size := by simpa [hq] using hs
    simp [Builtin.copy_, run_underlying hu, Builtin.lenOf, Builtin.firstCells, sizeOf, typeInfo, hq, hi, ← hn, hl, hst]
theorem run_clear_sized (w : World) (t e ty : TypeId) (z : Value) (ht : P.underlying t = some (.slice e)) (hv : ∀ w, (zeroValue e).run P w = .ok z w) (h1 : ∀ u ∈ (Builtin.zeroCells z.cells 1).toList, u.oneCell' = true) (b o c : Nat)
    (hc : ∀ j, j < (Builtin.zeroCells z.cells 1).toList.length → (w.cell? ⟨b, o + j, none⟩).isSome = true) (hf : ∀ j, j < (Builtin.zeroCells z.cells 1).toList.length → w.frozen? ⟨b, o + j, none⟩ = false) :
    (Builtin.clear_ #[t] ty #[.slice (some ⟨b, o, none⟩) 1 c]).run P w = .ok (.tuple #[]) (w.setCells b o (Builtin.zeroCells z.cells 1).toList) := by
  have hst := run_storeCells_cells (P := P) b o (Builtin.zeroCells z.cells 1).toList 0 w (by simpa using hc) (by simpa using hf) h1
  simp only [Nat.add_zero] at hst
  simp [Builtin.clear_, run_underlying ht, hv, hst]

theorem wp_copy_eq (w : World) {o : Oper} {a : Act} {K : Act → World → Prop} {Q : Exit → Act → World → Prop} (d s : Operand) (t t' : TypeId)
    (ho : o.op = .call { callee := .builtin .copy, args := #[d, s], argTypes := #[t, t'] }) (v u : Value) (hd : a.eval d = v) (hs : a.eval s = u) {v' : Value} {w' : World}
    (hr : (Builtin.copy_ #[t, t'] o.type #[v, u]).run P w = .ok v' w') (h : K (a.put o.dst v') w') : o.wp P a w K Q := by
  unfold Oper.wp execOp
  simp only [ho, resolve, invoke, builtin, Sem.run_bind, Sem.run_pure, Result.andThen_ok, List.map_toArray, List.map_cons, List.map_nil, hd, hs, hr]
  exact h
theorem wpList_copy_eq (w : World) {ops : Array Oper} {rest : List Oper} {o : Oper} {a : Act} {Q : Exit → Act → World → Prop} (hgd : o.guard = none) (d s : Operand) (t t' : TypeId)
    (ho : o.op = .call { callee := .builtin .copy, args := #[d, s], argTypes := #[t, t'] }) (v u : Value) (hd : a.eval d = v) (hs : a.eval s = u) {v' : Value} {w' : World}
    (hr : (Builtin.copy_ #[t, t'] o.type #[v, u]).run P w = .ok v' w') (h : wpList P ops Q rest (a.put o.dst v') w') : wpList P ops Q (o :: rest) a w :=
  wpList_plain hgd fun _ hK => wp_copy_eq w d s t t' ho v u hd hs hr (hK _ _ h)
theorem step_copy_eq {ops : Array Oper} {o : Oper} {a : Act} {w : World} {K : Act → World → Prop} {Q : Exit → Act → World → Prop} {E : Prop}
    (hg : o.guard = none) (d x : Operand) (dT sT : TypeId) (hop : o.op = Op.call { callee := Callee.builtin Builtin.copy, args := #[d, x], argTypes := #[dT, sT] })
    (v u : Value) (hd : a.eval d = v) (hx : a.eval x = u) {v' : Value} {w' : World} (hr : (Builtin.copy_ #[dT, sT] o.type #[v, u]).run P w = .ok v' w') (hK : K (a.put o.dst v') w') :
    if Region.wanted o (yielded ops a.tmps) = true then Oper.wp P o a w K Q else E := by
  have hw : Region.wanted o (yielded ops a.tmps) = true := by simp [Region.wanted, hg]
  rw [if_pos hw]
  exact wp_copy_eq w d x dT sT hop v u hd hx hr hK
end

/-- What two writes into one row leave: some cells taken out. -/
theorem cut_out {xs : List Value} {L z : List Value} {s n k : Nat} (hx : xs.length = n * s) (hk : k < n) :
    k * s + (xs.drop ((k + 1) * s)).length = (n - 1) * s := by
  rw [List.length_drop, hx]
  have h1 : (k + 1) * s ≤ n * s := Nat.mul_le_mul_right _ hk
  have h2 : (n - 1) * s + s = n * s := by
    rw [← Nat.succ_mul, show (n - 1).succ = n from by omega]
  rw [Nat.succ_mul] at h1 ⊢
  omega
end Go.Proofs.Ytfeeincglijmjaa
