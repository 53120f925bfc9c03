/- Texts of this seat, one behind the other. -/
import Derived.Test.YtfeeincglijmjaaGM
import Derived.Deep.MidRow
import Derived.Test.YtfeeincglijmjaaZB2
namespace Go.Proofs.Ytfeeincglijmjaa
/- Screens' blocks, read and written whole. -/
section
open Go.RowKit
set_option linter.unusedVariables false
set_option linter.unusedSimpArgs false

theorem info35 : (Try.prog.info? 35).map (·.size) = some 16 := by kernel_rfl
theorem blk_range {w : World} {g : Nat} {t : TypeId} {cs : Array Value} (h : Blk w g t cs) : w.rangeAt g 0 cs.toList := fun j v hv => by
  rw [Nat.zero_add, h.rules.1 j, ← Array.getElem?_toList]
  exact hv
theorem blk_there {w : World} {g : Nat} {t : TypeId} {cs : Array Value} (h : Blk w g t cs) : w.there g 0 cs.size := fun j hj => by
  rw [Nat.zero_add, h.rules.1 j, Array.getElem?_eq_getElem hj]
  exact ⟨rfl, h.rules.2 j⟩
theorem scr_ldv {w : World} {g : Nat} {cs : Array Value} (h : Blk w g 35 cs) (hs : cs.size = 16) : (loadVar 35 ⟨g, 0, none⟩).run Try.prog w = .ok (.agg cs) w := by
  have := run_loadVar_mid (P := Try.prog) w g 0 35 cs.toList _ (blk_range h) Try.underlying35 rfl (by rw [info35, Array.length_toList, hs])
  simpa using this
theorem scr_ld {w : World} {g : Nat} {cs : Array Value} (h : Blk w g 35 cs) (hs : cs.size = 16) : (Instr.loadAt 35 (.pointer (some ⟨g, 0, none⟩))).run Try.prog w = .ok (.agg cs) w := by
  have := run_loadAt_mid (P := Try.prog) w g 0 35 cs.toList _ (blk_range h) Try.underlying35 rfl (by rw [info35, Array.length_toList, hs])
  simpa using this
theorem scr_st {w : World} {g : Nat} {cs : Array Value} (h : Blk w g 35 cs) (hs : cs.size = 16) (v : Array Value) (hv : v.size = 16) (h1 : v.toList.all (·.oneCell') = true) :
    ∃ W', (Instr.storeAt 35 (.pointer (some ⟨g, 0, none⟩)) (.agg v)).run Try.prog w = .ok () W' ∧ Blk W' g 35 v ∧ w.grownBy W' (some g) ∧ W'.heap.size = w.heap.size := by
  have ht := blk_there h
  rw [hs, ← hv] at ht
  have hb := h.all v.toList (by rw [Array.length_toList]; omega)
  refine ⟨_, run_storeAt_mid (P := Try.prog) w g 0 35 v ht (by rw [info35, hv]) (Array.all_eq_true_iff_forall_mem.2 (fun x hx => List.all_eq_true.1 h1 x (by simpa using hx))), by simpa using hb, grownBy_setCells g v.toList 0 w, ?_⟩
  have hsz : ∀ (vs : List Value) (o : Nat) (w : World), (w.setCells g o vs).heap.size = w.heap.size := by
    intro vs
    induction vs with
    | nil => intro o w; rfl
    | cons x r ih => intro o w; rw [World.setCells, ih, World.size_setCell]
  exact hsz _ _ _
theorem results_cell2 {fn : Func} {t u : Tmp} (h : fn.results = #[.cell t 35, .tmp u]) (tmps : Array Value) {w : World} {g : Nat} {cs : Array Value} (hp : tmps.getD t undef = .pointer (some ⟨g, 0, none⟩)) (hb : Blk w g 35 cs) (hs : cs.size = 16) :
    (results fn tmps).run Try.prog w = .ok (.tuple #[.agg cs, tmps.getD u undef]) w := by
  have hl := scr_ldv hb hs
  simp only [Array.getD_eq_getD_getElem?] at hp
  simp [results, h, hp, hl, asAddr]
theorem bs16 {w : World} {g : Nat} {cs : Array Value} (h : Blk w g 35 cs) (hs : cs.size = 16) : Blk w g 35 cs ∧ cs.size = 16 := ⟨h, hs⟩
/-- At a list: a screen, read whole; written whole. -/
theorem wpList_ld {ops : Array Oper} {rest : List Oper} {op : Oper} {a : Act} {w : World} {Q : Exit → Act → World → Prop} {g : Nat} {cs : Array Value} (hb : Blk w g 35 cs) (hs : cs.size = 16) (hgd : op.guard = none) {x : Operand} (ho : op.op = .load 35 x)
    (hx : a.eval x = .pointer (some ⟨g, 0, none⟩)) (h : wpList Try.prog ops Q rest (a.put op.dst (.agg cs)) w) : wpList Try.prog ops Q (op :: rest) a w := by
  refine wpList_load_mid hgd 35 x ho g 0 hx cs.toList _ (blk_range hb) Try.underlying35 rfl (by rw [info35, Array.length_toList, hs]) ?_
  simpa using h
theorem wpList_st {ops : Array Oper} {rest : List Oper} {op : Oper} {a : Act} {w W' : World} {Q : Exit → Act → World → Prop} {g : Nat} {v : Array Value} (hst : (Instr.storeAt 35 (.pointer (some ⟨g, 0, none⟩)) (.agg v)).run Try.prog w = .ok () W') (hgd : op.guard = none) {x y : Operand} (ho : op.op = .store 35 x y)
    (hx : a.eval x = .pointer (some ⟨g, 0, none⟩)) (hy : a.eval y = .agg v) (h : wpList Try.prog ops Q rest (a.put op.dst undef) W') : wpList Try.prog ops Q (op :: rest) a w := by
  refine wpList_plain hgd fun K hK => ?_
  unfold Oper.wp execOp
  simp only [ho, hx, hy, Sem.run_bind, hst, Result.andThen_ok]
  exact hK _ _ h
theorem wpList_ld2 {ops : Array Oper} {rest : List Oper} {dst : Option Tmp} {x : Operand} {ty : TypeId} {pos : String} {after : Array _} {a : Act} {w : World} {Q : Exit → Act → World → Prop} {g : Nat} {cs : Array Value} (hb : Blk w g 35 cs ∧ cs.size = 16)
    (hx : a.eval x = .pointer (some ⟨g, 0, none⟩)) (h : wpList Try.prog ops Q rest (a.put dst (.agg cs)) w) : wpList Try.prog ops Q (⟨dst, .load 35 x, ty, pos, after, none⟩ :: rest) a w :=
  wpList_ld hb.1 hb.2 rfl rfl hx h
theorem wpList_st2 {ops : Array Oper} {rest : List Oper} {dst : Option Tmp} {x y : Operand} {ty : TypeId} {pos : String} {after : Array _} {a : Act} {w W' : World} {Q : Exit → Act → World → Prop} {g : Nat} {v : Array Value} (hst : (Instr.storeAt 35 (.pointer (some ⟨g, 0, none⟩)) (.agg v)).run Try.prog w = .ok () W')
    (hxy : a.eval x = .pointer (some ⟨g, 0, none⟩) ∧ a.eval y = .agg v) (h : wpList Try.prog ops Q rest (a.put dst undef) W') : wpList Try.prog ops Q (⟨dst, .store 35 x y, ty, pos, after, none⟩ :: rest) a w :=
  wpList_st hst rfl rfl hxy.1 hxy.2 h
end

/- Screens that are shown: what they are to the walk; read and written whole. -/
section
open Go.RowKit
set_option linter.unusedVariables false
set_option linter.unusedSimpArgs false

/-- A screen that is shown: its number, and where its places lie. -/
structure Shn where
  num : Int
  s : Scr
  C : Option Addr
  cc : Nat
  M : Option Addr
  cm : Nat
/-- Its cells. -/
def Shn.v (x : Shn) : Array Value :=
  #[.int .i64 x.num, .int .i64 x.s.W, .int .i64 x.s.H, .slice x.C x.s.cs.length x.cc, .int .i64 x.s.X, .int .i64 x.s.Y, .int .i64 x.s.At, .int .i64 x.s.Tp, .int .i64 x.s.Bt, .bool x.s.wr, .bool x.s.au, .bool x.s.hi, .bool x.s.al, .int .i64 x.s.s0, .int .i64 x.s.s1, .int .i64 x.s.s2, .slice x.M x.s.ms.length x.cm]
/-- What it says. -/
def Shn.p (x : Shn) : Int × Scr := (x.num, x.s)
theorem Shn.v_size (x : Shn) : x.v.size = 17 := rfl
theorem Shn.v_tail (x : Shn) : x.v.toList = .int .i64 x.num :: (x.s.v x.C x.cc x.M x.cm).toList := rfl
def shCells : List Shn → List Value
  | [] => []
  | x :: l => x.v.toList ++ shCells l
theorem shCells_length : ∀ l : List Shn, (shCells l).length = l.length * 17
  | [] => rfl
  | x :: l => by rw [shCells, List.length_append, shCells_length l, Array.length_toList, Shn.v_size, List.length_cons]; omega
theorem shCells_append : ∀ l m : List Shn, shCells (l ++ m) = shCells l ++ shCells m
  | [], m => rfl
  | x :: l, m => by rw [List.cons_append, shCells, shCells, shCells_append l m, List.append_assoc]
theorem shCells_drop : ∀ (l : List Shn) (k : Nat), (shCells l).drop (k * 17) = shCells (l.drop k)
  | l, 0 => by simp
  | [], k + 1 => by simp [shCells]
  | x :: l, k + 1 => by
    have h17 : x.v.toList.length = 17 := rfl
    rw [shCells, List.drop_append, h17, List.drop_of_length_le (by omega), List.nil_append, show (k + 1) * 17 - 17 = k * 17 from by omega, shCells_drop l k]
    rfl
theorem shCells_take : ∀ (l : List Shn) (k : Nat), (shCells l).take (k * 17) = shCells (l.take k)
  | l, 0 => by simp [shCells]
  | [], k + 1 => by simp [shCells]
  | x :: l, k + 1 => by
    have h17 : x.v.toList.length = 17 := rfl
    rw [shCells, List.take_append, h17, List.take_of_length_le (by omega), show (k + 1) * 17 - 17 = k * 17 from by omega, shCells_take l k]
    rfl
theorem shCells_one (l : List Shn) : ∀ u ∈ shCells l, u.oneCell' = true := by
  induction l with
  | nil => intro u hu; cases hu
  | cons x l ih =>
    intro u hu
    rw [shCells, List.mem_append] at hu
    rcases hu with hu | hu
    · simp only [Shn.v, List.mem_cons, List.not_mem_nil, or_false] at hu
      rcases hu with rfl | rfl | rfl | rfl | rfl | rfl | rfl | rfl | rfl | rfl | rfl | rfl | rfl | rfl | rfl | rfl | rfl <;> rfl
    · exact ih u hu
theorem shCells_at {l : List Shn} {i : Nat} (h : i < l.length) (j : Nat) (hj : j < 17) : (shCells l)[i * 17 + j]? = l[i].v.toList[j]? := by
  have e : (shCells l)[i * 17 + j]? = ((shCells l).drop (i * 17))[j]? := by rw [List.getElem?_drop]
  rw [e, shCells_drop, List.drop_eq_getElem_cons h, shCells, List.getElem?_append_left]
  show j < 17
  exact hj

/-- Its places lie below up; its lengths are Go's. -/
def Shn.Ok (w : World) (up : Nat) (x : Shn) : Prop := ScrAt w 0 up x.s x.C x.cc x.M x.cm ∧ x.s.Len
theorem Shn.Ok.below {w w' : World} {up B : Nat} {x : Shn} (h : x.Ok w up) (hb : Below B w w') (hB : up ≤ B) : x.Ok w' up := ⟨h.1.below hb hB, h.2⟩
theorem Shn.Ok.more {w : World} {up up' : Nat} {x : Shn} (h : x.Ok w up) (hu : up ≤ up') : x.Ok w up' := ⟨h.1.more (Nat.le_refl _) hu, h.2⟩
/-- Screens that are shown, with their places. -/
structure Shs (w : World) (up : Nat) (A : Option Addr) (n c : Nat) (l : List Shn) : Prop where
  sl : Sl w 0 up 17 A n c (shCells l)
  ok : ∀ x ∈ l, x.Ok w up
section
variable {w w' : World} {up n c : Nat} {A : Option Addr} {l : List Shn}
theorem Shs.len (h : Shs w up A n c l) : n = l.length := by have := h.sl.len; rw [shCells_length] at this; omega
theorem Shs.below {B : Nat} (h : Shs w up A n c l) (hb : Below B w w') (hB : up ≤ B) : Shs w' up A n c l := ⟨h.sl.below hb hB, fun x hx => (h.ok x hx).below hb hB⟩
theorem Shs.more {up' : Nat} (h : Shs w up A n c l) (hu : up ≤ up') : Shs w up' A n c l := ⟨h.sl.more (Nat.le_refl _) hu, fun x hx => (h.ok x hx).more hu⟩
theorem Shs.empty (w : World) (up : Nat) : Shs w up none 0 0 [] := ⟨Sl.empty _ _ _ _, fun x hx => by cases hx⟩
/-- The screen at a place. -/
theorem Shs.cell (h : Shs w up A n c l) (hn : 0 < n) : ∃ b o, A = some ⟨b, o, none⟩ ∧ b < up ∧ ∀ i (hi : i < l.length), w.rangeAt b (o + i * 17) l[i].v.toList := by
  obtain ⟨b, o, rfl, _, hb, hc⟩ := h.sl.at_ hn
  refine ⟨b, o, rfl, hb, fun i hi j v hv => ?_⟩
  have hj : j < 17 := (List.getElem?_eq_some_iff.1 hv).1
  have := hc (i * 17 + j) (by rw [shCells_length]; omega)
  rw [shCells_at hi j hj, hv] at this
  rw [← this]
  congr 2
  omega
theorem range_tail {b o : Nat} {x : Shn} (h : w.rangeAt b o x.v.toList) : w.rangeAt b (o + 1) (x.s.v x.C x.cc x.M x.cm).toList := fun j v hv => by
  have := h (j + 1) v (by rw [Shn.v_tail]; exact hv)
  rw [← this]
  congr 2
  omega
theorem range_num {b o : Nat} {x : Shn} (h : w.rangeAt b o x.v.toList) : w.cell? ⟨b, o, none⟩ = some (.int .i64 x.num) := h 0 _ rfl
theorem range_below {b o B : Nat} {cs : List Value} (h : w.rangeAt b o cs) (hb : Below B w w') (hB : b < B) : w'.rangeAt b o cs := fun j v hv => (hb.cell (p := ⟨b, o + j, none⟩) hB).trans (h j v hv)
end
theorem info39 : (Try.prog.info? 39).map (·.size) = some 17 := by kernel_rfl
/-- At a list: a shown screen, read whole out of the middle of a row; a screen so. -/
theorem wpList_ldh {ops : Array Oper} {rest : List Oper} {dst : Option Tmp} {x : Operand} {ty : TypeId} {pos : String} {after : Array _} {a : Act} {w : World} {Q : Exit → Act → World → Prop} {g o : Nat} {y : Shn} (hb : w.rangeAt g o y.v.toList)
    (hx : a.eval x = .pointer (some ⟨g, o, none⟩)) (h : wpList Try.prog ops Q rest (a.put dst (.agg y.v)) w) : wpList Try.prog ops Q (⟨dst, .load 39 x, ty, pos, after, none⟩ :: rest) a w := by
  refine wpList_load_mid rfl 39 x rfl g o hx y.v.toList _ hb Try.underlying39 rfl (by rw [info39]; rfl) ?_
  simpa using h
theorem wpList_lds {ops : Array Oper} {rest : List Oper} {dst : Option Tmp} {x : Operand} {ty : TypeId} {pos : String} {after : Array _} {a : Act} {w : World} {Q : Exit → Act → World → Prop} {g o : Nat} {cs : Array Value} (hb : w.rangeAt g o cs.toList ∧ cs.size = 16)
    (hx : a.eval x = .pointer (some ⟨g, o, none⟩)) (h : wpList Try.prog ops Q rest (a.put dst (.agg cs)) w) : wpList Try.prog ops Q (⟨dst, .load 35 x, ty, pos, after, none⟩ :: rest) a w := by
  refine wpList_load_mid rfl 35 x rfl g o hx cs.toList _ hb.1 Try.underlying35 rfl (by rw [info35, Array.length_toList, hb.2]) ?_
  simpa using h
theorem shn_st {w : World} {g : Nat} {cs : Array Value} (h : Blk w g 39 cs) (hs : cs.size = 17) (x : Shn) :
    ∃ W', (Instr.storeAt 39 (.pointer (some ⟨g, 0, none⟩)) (.agg x.v)).run Try.prog w = .ok () W' ∧ Blk W' g 39 x.v ∧ w.grownBy W' (some g) ∧ W'.heap.size = w.heap.size := by
  have ht := blk_there h
  rw [hs, ← x.v_size] at ht
  have hb := h.all x.v.toList (by rw [Array.length_toList, x.v_size]; omega)
  refine ⟨_, run_storeAt_mid (P := Try.prog) w g 0 39 x.v ht (by rw [info39]; rfl) (Array.all_eq_true_iff_forall_mem.2 (fun u hu => shCells_one [x] u (by rw [shCells, List.mem_append]; exact .inl (by simpa using hu)))), by simpa using hb, grownBy_setCells g x.v.toList 0 w, ?_⟩
  have hsz : ∀ (vs : List Value) (o : Nat) (w : World), (w.setCells g o vs).heap.size = w.heap.size := by
    intro vs
    induction vs with
    | nil => intro o w; rfl
    | cons x r ih => intro o w; rw [World.setCells, ih, World.size_setCell]
  exact hsz _ _ _
theorem shn_ldv {w : World} {g : Nat} {cs : Array Value} (h : Blk w g 39 cs) (hs : cs.size = 17) : (loadVar 39 ⟨g, 0, none⟩).run Try.prog w = .ok (.agg cs) w := by
  have := run_loadVar_mid (P := Try.prog) w g 0 39 cs.toList _ (blk_range h) Try.underlying39 rfl (by rw [info39, Array.length_toList, hs])
  simpa using this
theorem wpList_sth {ops : Array Oper} {rest : List Oper} {dst : Option Tmp} {x y : Operand} {ty : TypeId} {pos : String} {after : Array _} {a : Act} {w W' : World} {Q : Exit → Act → World → Prop} {g : Nat} {v : Array Value} (hst : (Instr.storeAt 39 (.pointer (some ⟨g, 0, none⟩)) (.agg v)).run Try.prog w = .ok () W')
    (hxy : a.eval x = .pointer (some ⟨g, 0, none⟩) ∧ a.eval y = .agg v) (h : wpList Try.prog ops Q rest (a.put dst undef) W') : wpList Try.prog ops Q (⟨dst, .store 39 x y, ty, pos, after, none⟩ :: rest) a w := by
  refine wpList_plain rfl fun K hK => ?_
  unfold Oper.wp execOp
  simp only [hxy.1, hxy.2, Sem.run_bind, hst, Result.andThen_ok]
  exact hK _ _ h
theorem results_cellh {fn : Func} {t : Tmp} (h : fn.results = #[.cell t 39]) (tmps : Array Value) {w : World} {g : Nat} {cs : Array Value} (hp : tmps.getD t undef = .pointer (some ⟨g, 0, none⟩)) (hb : Blk w g 39 cs) (hs : cs.size = 17) :
    (results fn tmps).run Try.prog w = .ok (.agg cs) w := by
  have hl := shn_ldv hb hs
  simp only [Array.getD_eq_getD_getElem?] at hp
  simp [results, h, hp, hl, asAddr]
end
end Go.Proofs.Ytfeeincglijmjaa
