/- Screens' blocks, read and written whole. -/
import Derived.Test.YtfeeincglijmjaaGM
import Derived.Deep.MidRow
namespace Go.Proofs.Ytfeeincglijmjaa
open Go.RowKit
set_option linter.unusedVariables false
set_option linter.unusedSimpArgs false

theorem info35 : (Try.prog.info? 35).map (·.size) = some 16 := by kernel_rfl
theorem blk_range {w : World} {g : Nat} {t : TypeId} {cs : Array Value} (h : Blk w g t cs) : w.rangeAt g 0 cs.toList := fun j v hv => by
  rw [Nat.zero_add, h.rules.1 j, ← Array.getElem?_toList]
  exact hv
theorem blk_there {w : World} {g : Nat} {t : TypeId} {cs : Array Value} (h : Blk w g t cs) : w.there g 0 cs.size := fun j hj => by
  rw [Nat.zero_add, h.rules.1 j, Array.getElem?_eq_getElem hj]
  exact ⟨rfl, h.rules.2 j⟩
theorem scr_ldv {w : World} {g : Nat} {cs : Array Value} (h : Blk w g 35 cs) (hs : cs.size = 16) : (loadVar 35 ⟨g, 0, none⟩).run Try.prog w = .ok (.agg cs) w := by
  have := run_loadVar_mid (P := Try.prog) w g 0 35 cs.toList _ (blk_range h) Try.underlying35 rfl (by rw [info35, Array.length_toList, hs])
  simpa using this
theorem scr_ld {w : World} {g : Nat} {cs : Array Value} (h : Blk w g 35 cs) (hs : cs.size = 16) : (Instr.loadAt 35 (.pointer (some ⟨g, 0, none⟩))).run Try.prog w = .ok (.agg cs) w := by
  have := run_loadAt_mid (P := Try.prog) w g 0 35 cs.toList _ (blk_range h) Try.underlying35 rfl (by rw [info35, Array.length_toList, hs])
  simpa using this
theorem scr_st {w : World} {g : Nat} {cs : Array Value} (h : Blk w g 35 cs) (hs : cs.size = 16) (v : Array Value) (hv : v.size = 16) (h1 : v.toList.all (·.oneCell') = true) :
    ∃ W', (Instr.storeAt 35 (.pointer (some ⟨g, 0, none⟩)) (.agg v)).run Try.prog w = .ok () W' ∧ Blk W' g 35 v ∧ w.grownBy W' (some g) ∧ W'.heap.size = w.heap.size := by
  have ht := blk_there h
  rw [hs, ← hv] at ht
  have hb := h.all v.toList (by rw [Array.length_toList]; omega)
  refine ⟨_, run_storeAt_mid (P := Try.prog) w g 0 35 v ht (by rw [info35, hv]) (Array.all_eq_true_iff_forall_mem.2 (fun x hx => List.all_eq_true.1 h1 x (by simpa using hx))), by simpa using hb, grownBy_setCells g v.toList 0 w, ?_⟩
  have hsz : ∀ (vs : List Value) (o : Nat) (w : World), (w.setCells g o vs).heap.size = w.heap.size := by
    intro vs
    induction vs with
    | nil => intro o w; rfl
    | cons x r ih => intro o w; rw [World.setCells, ih, World.size_setCell]
  exact hsz _ _ _
theorem results_cell2 {fn : Func} {t u : Tmp} (h : fn.results = #[.cell t 35, .tmp u]) (tmps : Array Value) {w : World} {g : Nat} {cs : Array Value} (hp : tmps.getD t undef = .pointer (some ⟨g, 0, none⟩)) (hb : Blk w g 35 cs) (hs : cs.size = 16) :
    (results fn tmps).run Try.prog w = .ok (.tuple #[.agg cs, tmps.getD u undef]) w := by
  have hl := scr_ldv hb hs
  simp only [Array.getD_eq_getD_getElem?] at hp
  simp [results, h, hp, hl, asAddr]
theorem bs16 {w : World} {g : Nat} {cs : Array Value} (h : Blk w g 35 cs) (hs : cs.size = 16) : Blk w g 35 cs ∧ cs.size = 16 := ⟨h, hs⟩
/-- At a list: a screen, read whole; written whole. -/
theorem wpList_ld {ops : Array Oper} {rest : List Oper} {op : Oper} {a : Act} {w : World} {Q : Exit → Act → World → Prop} {g : Nat} {cs : Array Value} (hb : Blk w g 35 cs) (hs : cs.size = 16) (hgd : op.guard = none) {x : Operand} (ho : op.op = .load 35 x)
    (hx : a.eval x = .pointer (some ⟨g, 0, none⟩)) (h : wpList Try.prog ops Q rest (a.put op.dst (.agg cs)) w) : wpList Try.prog ops Q (op :: rest) a w := by
  refine wpList_load_mid hgd 35 x ho g 0 hx cs.toList _ (blk_range hb) Try.underlying35 rfl (by rw [info35, Array.length_toList, hs]) ?_
  simpa using h
theorem wpList_st {ops : Array Oper} {rest : List Oper} {op : Oper} {a : Act} {w W' : World} {Q : Exit → Act → World → Prop} {g : Nat} {v : Array Value} (hst : (Instr.storeAt 35 (.pointer (some ⟨g, 0, none⟩)) (.agg v)).run Try.prog w = .ok () W') (hgd : op.guard = none) {x y : Operand} (ho : op.op = .store 35 x y)
    (hx : a.eval x = .pointer (some ⟨g, 0, none⟩)) (hy : a.eval y = .agg v) (h : wpList Try.prog ops Q rest (a.put op.dst undef) W') : wpList Try.prog ops Q (op :: rest) a w := by
  refine wpList_plain hgd fun K hK => ?_
  unfold Oper.wp execOp
  simp only [ho, hx, hy, Sem.run_bind, hst, Result.andThen_ok]
  exact hK _ _ h
theorem wpList_ld2 {ops : Array Oper} {rest : List Oper} {dst : Option Tmp} {x : Operand} {ty : TypeId} {pos : String} {after : Array _} {a : Act} {w : World} {Q : Exit → Act → World → Prop} {g : Nat} {cs : Array Value} (hb : Blk w g 35 cs ∧ cs.size = 16)
    (hx : a.eval x = .pointer (some ⟨g, 0, none⟩)) (h : wpList Try.prog ops Q rest (a.put dst (.agg cs)) w) : wpList Try.prog ops Q (⟨dst, .load 35 x, ty, pos, after, none⟩ :: rest) a w :=
  wpList_ld hb.1 hb.2 rfl rfl hx h
theorem wpList_st2 {ops : Array Oper} {rest : List Oper} {dst : Option Tmp} {x y : Operand} {ty : TypeId} {pos : String} {after : Array _} {a : Act} {w W' : World} {Q : Exit → Act → World → Prop} {g : Nat} {v : Array Value} (hst : (Instr.storeAt 35 (.pointer (some ⟨g, 0, none⟩)) (.agg v)).run Try.prog w = .ok () W')
    (hxy : a.eval x = .pointer (some ⟨g, 0, none⟩) ∧ a.eval y = .agg v) (h : wpList Try.prog ops Q rest (a.put dst undef) W') : wpList Try.prog ops Q (⟨dst, .store 35 x y, ty, pos, after, none⟩ :: rest) a w :=
  wpList_st hst rfl rfl hxy.1 hxy.2 h
end Go.Proofs.Ytfeeincglijmjaa
