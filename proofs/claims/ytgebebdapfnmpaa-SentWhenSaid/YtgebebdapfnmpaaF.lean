/- The walk of sent.parted. -/
import Derived.Test.YtgebebdapfnmpaaD
namespace Go.Proofs.Ytgebebdapfnmpaa
open Go.RowKit
set_option linter.unusedVariables false
set_option linter.unusedSimpArgs false

theorem wpListIn_append_sl2 {F : Fence} {n : Nat} {P : Program} (w : World) {ops : Array Oper} {rest : List Oper} {o : Oper} {a : Act} {Q : Exit → Act → World → Prop} (hgd : o.guard = none) (s x : Operand) (t : TypeId)
    (ho : o.op = .call { callee := .builtin .append, args := #[s, x], argTypes := #[t, t] })
    (base : Nat) (e : TypeId) (i : TypeInfo) (z : Value) (size bytes : Nat) (ht : P.underlying t = some (.slice e)) (hi : P.info? e = some i) (hz : i.zero = some z)
    (hsize : i.size = size) (hby : i.bytes = bytes) (hzs : z.cells.size = size) (hsz : 0 < size)
    (v : Value) (m : Nat) (xs : List Value) (hs : a.eval s = v) (hown : w.ownsRow base e size v m xs)
    (lo up : Nat) (A : Option Addr) (k c : Nat) (news : List Value) (hx : a.eval x = .slice A k c) (hr : Sl w lo up size A k c news) (h1 : ∀ u ∈ news, u.oneCell' = true)
    (j : Nat) (hk : m + k = j) (ys : List Value) (hys : xs ++ news = ys)
    (h63 : j ≤ maxLen) (hbytes : j * bytes ≤ 140737488355328) (hbase : base ≤ w.heap.size)
    (h : ∀ A' c' w', w'.ownsRow base e size (.slice A' j c') j ys → w.grownBy w' v.ownBlock → (∀ g, Value.ownBlock (.slice A' j c') = some g → v.ownBlock = some g ∨ w.heap.size ≤ g) → wpListIn F n P ops Q rest (a.put o.dst (.slice A' j c')) w') : wpListIn F n P ops Q (o :: rest) a w := by
  refine wpListIn_plain hgd fun K hK => ?_
  obtain ⟨A', c', w', hrun, h2, h3, h4⟩ := run_append_sl2 (P := P) w base t o.type e i z size bytes ht hi hz hsize hby hzs hsz v m xs hown lo up A k c news hr h1 j hk ys hys h63 hbytes hbase
  unfold Oper.wpIn
  refine ⟨?_, ?_⟩
  · simp [Oper.about, ho, resolve, Target.leads, Sem.run_pure]
  · rw [Oper.semAt_plain F _ _ (by rw [ho]; intro c hc'; cases hc')]
    simp [execOp, ho, resolve, invoke, builtin, hs, hx, hrun, Result.andThen]
    exact hK _ _ (h A' c' w' h2 h3 h4)

theorem apart_step {a b a' : Option Nat} {S : Nat} (hab : ∀ g, a = some g → b ≠ some g) (hb : ∀ g, b = some g → g < S) (ha' : ∀ g, a' = some g → a = some g ∨ S ≤ g) : ∀ g, a' = some g → b ≠ some g := by
  intro g hg e
  rcases ha' g hg with h | h
  · exact hab g h e
  · have := hb g e; omega
theorem apart_sym {a b : Option Nat} (hab : ∀ g, a = some g → b ≠ some g) : ∀ g, b = some g → a ≠ some g := fun g h e => hab g e h
theorem apart_or {a b : Option Nat} (hab : ∀ g, a = some g → b ≠ some g) : a = none ∨ a ≠ b := by
  cases a with
  | none => exact .inl rfl
  | some g => exact .inr (fun e => hab g rfl e.symm)

/-- Two variables hold slices of packets that are the callee's own, apart. -/
def Two (W : World) (base b1 b2 : Nat) (l1 l2 : List Pk) : Prop := ∃ A1 c1 A2 c2, Blk W b1 22 #[.slice A1 l1.length c1] ∧ Blk W b2 22 #[.slice A2 l2.length c2] ∧
  W.ownsRow base 27 5 (.slice A1 l1.length c1) l1.length (pCells l1) ∧ W.ownsRow base 27 5 (.slice A2 l2.length c2) l2.length (pCells l2) ∧ (∀ g, Value.ownBlock (.slice A1 l1.length c1) = some g → Value.ownBlock (.slice A2 l2.length c2) ≠ some g)

theorem own_kept_from {W W' : World} {base : Nat} {e : TypeId} {s : Nat} {v : Value} {n : Nat} {xs : List Value} {row : Option Nat} {B : Nat} (h : W.ownsRow base e s v n xs) (hg : W.grownBy W' row) (hr : ∀ r, row = some r → B ≤ r ∧ ∃ o : Obj, W.heap[r]? = some o ∧ o.isCells = false) : W'.ownsRow base e s v n xs := by
  refine h.kept hg ?_
  rcases h.2 with ⟨rfl, _⟩ | ⟨g, cap, cur, rfl, _, hgb, _⟩
  · exact .inl rfl
  · refine .inr fun e' => ?_
    obtain ⟨_, o, ho, hc⟩ := hr g (by simpa [Value.ownBlock] using e'.symm)
    rw [hgb] at ho; cases ho; cases hc
theorem two_from {β : Type} (B base b1 b2 : Nat) (f1 f2 : β → List Pk) : OwnFrom B (fun (s : β) W => Two W base b1 b2 (f1 s) (f2 s)) := by
  rintro s W W' row ⟨A1, c1, A2, c2, h1, h2, h3, h4, h5⟩ hg hr
  exact ⟨A1, c1, A2, c2, blk_from B b1 22 (fun _ => _) s W W' row h1 hg hr, blk_from B b2 22 (fun _ => _) s W W' row h2 hg hr, own_kept_from h3 hg hr, own_kept_from h4 hg hr, h5⟩
theorem Two.later {W W' : World} {base b1 b2 : Nat} {l1 l2 : List Pk} (h : Two W base b1 b2 l1 l2) (hb : Below W.heap.size W W') : Two W' base b1 b2 l1 l2 := by
  obtain ⟨A1, c1, A2, c2, h1, h2, h3, h4, h5⟩ := h
  exact ⟨A1, c1, A2, c2, h1.later hb, h2.later hb, own_below h3 hb (Nat.le_refl _), own_below h4 hb (Nat.le_refl _), h5⟩
theorem Two.alloc {W : World} {base b1 b2 : Nat} {l1 l2 : List Pk} (h : Two W base b1 b2 l1 l2) (o : Obj) : Two (W.alloc o) base b1 b2 l1 l2 := h.later ((Below.refl _ W).alloc (Nat.le_refl _) o)
theorem keeps_below {W W' : World} (h : Below W.heap.size W W') : KeepsOthers W W' := ⟨h.size, fun k o hk _ => (h.block k (Array.getElem?_eq_some_iff.1 hk).1).trans hk⟩
theorem keeps_grown {W W' : World} {base : Nat} {e : TypeId} {s : Nat} {v : Value} {n : Nat} {xs : List Value} (h : W.ownsRow base e s v n xs) (hg : W.grownBy W' v.ownBlock) : KeepsOthers W W' := ⟨hg.size, fun k o hk ho => by
  refine (hg.block k (Array.getElem?_eq_some_iff.1 hk).1 fun e' => ?_).trans hk
  rcases h.2 with ⟨rfl, _⟩ | ⟨g, cap, cur, rfl, _, hgb, _⟩
  · simp [Value.ownBlock] at e'
  · obtain rfl : k = g := by simpa [Value.ownBlock] using e'
    rw [hgb] at hk; cases hk; cases ho⟩
/-- A variable's block is not the row of a slice of packets. -/
theorem not_row {W : World} {g base n : Nat} {v : Value} {xs : List Value} {cs : Array Value} (hb : Blk W g 22 cs) (h : W.ownsRow base 27 5 v n xs) : some g ≠ v.ownBlock := by
  rcases h.2 with ⟨rfl, _⟩ | ⟨g', cap, cur, rfl, _, hgb, _⟩
  · simp [Value.ownBlock]
  · intro e
    obtain rfl : g = g' := by simpa [Value.ownBlock] using e
    unfold Blk at hb
    rw [hb] at hgb
    injection hgb with hgb
    injection hgb with _ ht
    cases ht

theorem info27 : (Try.prog.info? 27).map (fun i => (i.zero, i.size, i.bytes)) = some (some (.agg #[.int .i64 0, .int .i64 0, .int .i64 0, .bool false, .bool false]), 5, 32) := by kernel_rfl
theorem sl_pk {w : World} {p : Pk} {g : Nat} (hg : w.heap.size = g) : Sl (w.alloc (.cells #[.int .i64 p.no, .int .i64 p.ti, .int .i64 p.sz, .bool p.el, .bool p.pr] 27)) g (g + 1) 5 (some ⟨g, 0, none⟩) 1 1 (pCells [p]) := Sl.new w 27 _ 5 1 1 _ hg (Nat.le_refl _) rfl rfl

/-- The first of two lists grows. -/
theorem Two.first {W : World} {base b1 b2 : Nat} {l1 l2 : List Pk} {p : Pk} (hb : base ≤ W.heap.size) (hbb : b1 ≠ b2) {A1 : Option Addr} {c1 : Nat} {A2 : Option Addr} {c2 : Nat} (h1 : Blk W b1 22 #[.slice A1 l1.length c1]) (h2 : Blk W b2 22 #[.slice A2 l2.length c2])
    (h3 : W.ownsRow base 27 5 (.slice A1 l1.length c1) l1.length (pCells l1)) (h4 : W.ownsRow base 27 5 (.slice A2 l2.length c2) l2.length (pCells l2)) (h5 : ∀ g, Value.ownBlock (.slice A1 l1.length c1) = some g → Value.ownBlock (.slice A2 l2.length c2) ≠ some g)
    {o : Obj} {A' : Option Addr} {c' : Nat} {w1 : World} (hown : w1.ownsRow base 27 5 (.slice A' (l1.length + 1) c') (l1.length + 1) (pCells (l1 ++ [p]))) (hg : (W.alloc o).grownBy w1 (Value.ownBlock (.slice A1 l1.length c1))) (hbl : ∀ g, Value.ownBlock (.slice A' (l1.length + 1) c') = some g → Value.ownBlock (.slice A1 l1.length c1) = some g ∨ (W.alloc o).heap.size ≤ g) :
    Blk w1 b1 22 #[.slice A1 l1.length c1] ∧ Two (w1.setCell ⟨b1, 0, none⟩ (.slice A' (l1.length + 1) c')) base b1 b2 (l1 ++ [p]) l2 := by
  have g1 : Blk w1 b1 22 #[.slice A1 l1.length c1] := (h1.alloc o).grown hg (not_row h1 h3)
  have g2 : Blk w1 b2 22 #[.slice A2 l2.length c2] := (h2.alloc o).grown hg (not_row h2 h3)
  have g4 := (own_alloc h4 o).kept hg (apart_or (apart_sym h5))
  have hap := apart_step h5 (fun g hh => (h4.lt g hh).2) (fun g hh => (hbl g hh).imp_right (fun h => by rw [World.size_alloc] at h; omega))
  have hl : (l1 ++ [p]).length = l1.length + 1 := by simp
  refine ⟨g1, A', c', A2, c2, ?_, g2.far (fun e => hbb e.symm) _, ?_, own_setBlk g4 g1 (by decide) _ _, ?_⟩
  · rw [hl]; exact g1.set_ 0 _
  · rw [hl]; exact own_setBlk hown g1 (by decide) _ _
  · rw [hl]; exact hap
/-- The second of two lists grows. -/
theorem Two.second {W : World} {base b1 b2 : Nat} {l1 l2 : List Pk} {p : Pk} (hb : base ≤ W.heap.size) (hbb : b1 ≠ b2) {A1 : Option Addr} {c1 : Nat} {A2 : Option Addr} {c2 : Nat} (h1 : Blk W b1 22 #[.slice A1 l1.length c1]) (h2 : Blk W b2 22 #[.slice A2 l2.length c2])
    (h3 : W.ownsRow base 27 5 (.slice A1 l1.length c1) l1.length (pCells l1)) (h4 : W.ownsRow base 27 5 (.slice A2 l2.length c2) l2.length (pCells l2)) (h5 : ∀ g, Value.ownBlock (.slice A1 l1.length c1) = some g → Value.ownBlock (.slice A2 l2.length c2) ≠ some g)
    {o : Obj} {A' : Option Addr} {c' : Nat} {w1 : World} (hown : w1.ownsRow base 27 5 (.slice A' (l2.length + 1) c') (l2.length + 1) (pCells (l2 ++ [p]))) (hg : (W.alloc o).grownBy w1 (Value.ownBlock (.slice A2 l2.length c2))) (hbl : ∀ g, Value.ownBlock (.slice A' (l2.length + 1) c') = some g → Value.ownBlock (.slice A2 l2.length c2) = some g ∨ (W.alloc o).heap.size ≤ g) :
    Blk w1 b2 22 #[.slice A2 l2.length c2] ∧ Two (w1.setCell ⟨b2, 0, none⟩ (.slice A' (l2.length + 1) c')) base b1 b2 l1 (l2 ++ [p]) := by
  obtain ⟨g, A, c, A3, c3, k1, k2, k3, k4, k5⟩ := Two.first hb (fun e => hbb e.symm) h2 h1 h4 h3 (apart_sym h5) hown hg hbl
  exact ⟨g, A3, c3, A, c, k2, k1, k4, k3, apart_sym k5⟩
end Go.Proofs.Ytgebebdapfnmpaa
