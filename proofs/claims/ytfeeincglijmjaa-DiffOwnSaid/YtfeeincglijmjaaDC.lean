/- The walk of diff.changes. -/
import Derived.Test.YtfeeincglijmjaaDB
import Derived.IntWalk
namespace Go.Proofs.Ytfeeincglijmjaa
open Go.RowKit
set_option linter.unusedVariables false
set_option linter.unusedSimpArgs false
attribute [local go_sem] Oper.semAt_some

theorem wpListIn_append_sl2 {F : Fence} {n : Nat} {P : Program} (w : World) {ops : Array Oper} {rest : List Oper} {o : Oper} {a : Act} {Q : Exit → Act → World → Prop} (hgd : o.guard = none) (s x : Operand) (t : TypeId)
    (ho : o.op = .call { callee := .builtin .append, args := #[s, x], argTypes := #[t, t] })
    (base : Nat) (e : TypeId) (i : TypeInfo) (z : Value) (size bytes : Nat) (ht : P.underlying t = some (.slice e)) (hi : P.info? e = some i) (hz : i.zero = some z)
    (hsize : i.size = size) (hby : i.bytes = bytes) (hzs : z.cells.size = size) (hsz : 0 < size)
    (v : Value) (m : Nat) (xs : List Value) (hs : a.eval s = v) (hown : w.ownsRow base e size v m xs)
    (lo up : Nat) (A : Option Addr) (k c : Nat) (news : List Value) (hx : a.eval x = .slice A k c) (hr : Sl w lo up size A k c news) (h1 : ∀ u ∈ news, u.oneCell' = true)
    (j : Nat) (hk : m + k = j) (ys : List Value) (hys : xs ++ news = ys)
    (h63 : j ≤ maxLen) (hbytes : j * bytes ≤ 140737488355328) (hbase : base ≤ w.heap.size)
    (h : ∀ A' c' w', w'.ownsRow base e size (.slice A' j c') j ys → w.grownBy w' v.ownBlock → (∀ g, Value.ownBlock (.slice A' j c') = some g → v.ownBlock = some g ∨ w.heap.size ≤ g) → wpListIn F n P ops Q rest (a.put o.dst (.slice A' j c')) w') : wpListIn F n P ops Q (o :: rest) a w := by
  refine wpListIn_plain hgd fun K hK => ?_
  obtain ⟨A', c', w', hrun, h2, h3, h4⟩ := run_append_sl2 (P := P) w base t o.type e i z size bytes ht hi hz hsize hby hzs hsz v m xs hown lo up A k c news hr h1 j hk ys hys h63 hbytes hbase
  unfold Oper.wpIn
  refine ⟨?_, ?_⟩
  · simp [Oper.about, ho, resolve, Target.leads, Sem.run_pure]
  · rw [Oper.semAt_plain F _ _ (by rw [ho]; intro c hc'; cases hc')]
    simp [execOp, ho, resolve, invoke, builtin, hs, hx, hrun, Result.andThen]
    exact hK _ _ (h A' c' w' h2 h3 h4)

theorem blk_from {β : Type} (B g : Nat) (t : TypeId) (cs : β → Array Value) : OwnFrom B (fun (s : β) W => Blk W g t (cs s)) := fun s W W' row hs hg hr =>
  hs.grown hg fun e => by
    obtain ⟨_, o, ho, hc⟩ := hr g e.symm
    unfold Blk at hs
    rw [hs] at ho
    cases ho
    cases hc
theorem pure_from {β : Type} (B : Nat) (p : β → Prop) : OwnFrom B (fun (s : β) _ => p s) := fun _ _ _ _ hs _ _ => hs
theorem own_kept_from {W W' : World} {base : Nat} {e : TypeId} {s : Nat} {v : Value} {n : Nat} {xs : List Value} {row : Option Nat} {B : Nat} (h : W.ownsRow base e s v n xs) (hg : W.grownBy W' row) (hr : ∀ r, row = some r → B ≤ r ∧ ∃ o : Obj, W.heap[r]? = some o ∧ o.isCells = false) : W'.ownsRow base e s v n xs := by
  refine h.kept hg ?_
  rcases h.2 with ⟨rfl, _⟩ | ⟨g, cap, cur, rfl, _, hgb, _⟩
  · exact .inl rfl
  · refine .inr fun e' => ?_
    obtain ⟨_, o, ho, hc⟩ := hr g (by simpa [Value.ownBlock] using e'.symm)
    rw [hgb] at ho; cases ho; cases hc
theorem keeps_below {W W' : World} (h : Below W.heap.size W W') : KeepsOthers W W' := ⟨h.size, fun k o hk _ => (h.block k (Array.getElem?_eq_some_iff.1 hk).1).trans hk⟩
theorem keeps_grown {W W' : World} {base : Nat} {e : TypeId} {s : Nat} {v : Value} {n : Nat} {xs : List Value} (h : W.ownsRow base e s v n xs) (hg : W.grownBy W' v.ownBlock) : KeepsOthers W W' := ⟨hg.size, fun k o hk ho => by
  refine (hg.block k (Array.getElem?_eq_some_iff.1 hk).1 fun e' => ?_).trans hk
  rcases h.2 with ⟨rfl, _⟩ | ⟨g, cap, cur, rfl, _, hgb, _⟩
  · simp [Value.ownBlock] at e'
  · obtain rfl : k = g := by simpa [Value.ownBlock] using e'
    rw [hgb] at hk; cases hk; cases ho⟩
theorem not_row3 {W : World} {g base n : Nat} {t : TypeId} {v : Value} {xs : List Value} {cs : Array Value} (ht : t ≠ 3) (hb : Blk W g t cs) (h : W.ownsRow base 3 1 v n xs) : some g ≠ v.ownBlock := by
  rcases h.2 with ⟨rfl, _⟩ | ⟨g', cap, cur, rfl, _, hgb, _⟩
  · simp [Value.ownBlock]
  · intro e
    obtain rfl : g = g' := by simpa [Value.ownBlock] using e
    unfold Blk at hb
    rw [hb] at hgb
    injection hgb with hgb
    injection hgb with _ h2
    exact ht h2

/-- A variable that holds numbers of the callee's own. -/
def LL (W : World) (base g : Nat) (L : List Int) : Prop := ∃ A c, Blk W g 88 #[.slice A L.length c] ∧ W.ownsRow base 3 1 (.slice A L.length c) L.length (intCells L)
theorem LL.later {W W' : World} {base g : Nat} {L : List Int} (h : LL W base g L) (hb : Below W.heap.size W W') : LL W' base g L := by
  obtain ⟨A, c, h1, h2⟩ := h
  exact ⟨A, c, h1.later hb, own_below h2 hb (Nat.le_refl _)⟩
theorem LL.alloc {W : World} {base g : Nat} {L : List Int} (h : LL W base g L) (o : Obj) : LL (W.alloc o) base g L := h.later ((Below.refl _ W).alloc (Nat.le_refl _) o)
theorem ll_from {β : Type} (B base g : Nat) (f : β → List Int) : OwnFrom B (fun (s : β) W => LL W base g (f s)) := by
  rintro s W W' row ⟨A, c, h1, h2⟩ hg hr
  exact ⟨A, c, blk_from B g 88 (fun _ => _) s W W' row h1 hg hr, own_kept_from h2 hg hr⟩
/-- What a step leaves: blocks ahead, the boxes, and whatever is no row of cells. -/
def Stp (n₀ Bf Bt : Nat) (W W' : World) : Prop := KeepsOthers W W' ∧ Kpt n₀ Bf Bt W W'
theorem stp_t {n₀ Bf Bt : Nat} {A B C : World} (h : Stp n₀ Bf Bt A B) (k : Stp n₀ Bf Bt B C) : Stp n₀ Bf Bt A C := ⟨h.1.trans k.1, kpt_t h.2 k.2⟩
theorem stp_r {n₀ Bf Bt : Nat} {A : World} : Stp n₀ Bf Bt A A := ⟨keeps_below (Below.refl _ _), kpt_r⟩
theorem stp_alloc {n₀ Bf Bt : Nat} (A : World) (o : Obj) (hn : n₀ ≤ A.heap.size) (h1 : Bf < A.heap.size) (h2 : Bt < A.heap.size) : Stp n₀ Bf Bt A (A.alloc o) :=
  ⟨KeepsOthers.alloc _ _, kpt_below ((Below.refl _ A).alloc (Nat.le_refl _) o) hn h1 h2⟩
theorem stp_set {n₀ Bf Bt : Nat} (A : World) (p : Addr) (u : Value) (hn : n₀ ≤ p.block) (h1 : p.block ≠ Bf) (h2 : p.block ≠ Bt) : Stp n₀ Bf Bt A (A.setCell p u) :=
  ⟨KeepsOthers.setCell _ _ _, (Below.refl _ A).setCell hn u, Below.heap_setCell _ _ _ _ (fun e => h1 e.symm), Below.heap_setCell _ _ _ _ (fun e => h2 e.symm)⟩
/-- The numbers grow by some that were just laid. -/
theorem LL.grow {n₀ Bf Bt W0 : Nat} {W w1 : World} {base g : Nat} {L m : List Int} {A A' : Option Addr} {c c' : Nat} {o : Obj} {cf ct : Array Value} (h1 : Blk W g 88 #[.slice A L.length c]) (h2 : W.ownsRow base 3 1 (.slice A L.length c) L.length (intCells L))
    (hbf : Blk W Bf 32 cf) (hbt : Blk W Bt 32 ct) (hn : n₀ ≤ base) (hng : n₀ ≤ g) (hb : base ≤ W.heap.size)
    (hown : w1.ownsRow base 3 1 (.slice A' (L ++ m).length c') (L ++ m).length (intCells (L ++ m))) (hg : (W.alloc o).grownBy w1 (Value.ownBlock (.slice A L.length c))) :
    Blk w1 g 88 #[.slice A L.length c] ∧ LL (w1.setCell ⟨g, 0, none⟩ (.slice A' (L ++ m).length c')) base g (L ++ m) ∧ Stp n₀ Bf Bt W (w1.setCell ⟨g, 0, none⟩ (.slice A' (L ++ m).length c')) ∧ Blk w1 Bf 32 cf ∧ Blk w1 Bt 32 ct := by
  have g1 : Blk w1 g 88 #[.slice A L.length c] := (h1.alloc o).grown hg (not_row3 (by decide) h1 h2)
  have g2 : Blk w1 Bf 32 cf := (hbf.alloc o).grown hg (not_row3 (by decide) hbf h2)
  have g3 : Blk w1 Bt 32 ct := (hbt.alloc o).grown hg (not_row3 (by decide) hbt h2)
  have lf := hbf.lt
  have lt := hbt.lt
  have ng1 : g ≠ Bf := by
    rintro rfl
    unfold Blk at h1 hbf
    rw [h1] at hbf
    injection hbf with hbf
    injection hbf with _ ht
    cases ht
  have ng2 : g ≠ Bt := by
    rintro rfl
    unfold Blk at h1 hbt
    rw [h1] at hbt
    injection hbt with hbt
    injection hbt with _ ht
    cases ht
  have s1 : Stp n₀ Bf Bt W (W.alloc o) := stp_alloc W o (by omega) lf lt
  have s2 : Stp n₀ Bf Bt (W.alloc o) w1 := ⟨keeps_grown (own_alloc h2 o) hg, kpt_grown kpt_r hg (by rw [World.size_alloc]; omega) (by rw [World.size_alloc]; omega) (by rw [World.size_alloc]; omega) (fun k e => ⟨by have := (h2.lt k e).1; omega, fun ek => by subst ek; exact not_row3 (by decide) hbf h2 e.symm, fun ek => by subst ek; exact not_row3 (by decide) hbt h2 e.symm⟩)⟩
  exact ⟨g1, ⟨A', c', g1.set_ 0 _, own_setBlk hown g1 (by decide) _ _⟩, stp_t (stp_t s1 s2) (stp_set w1 _ _ hng ng1 ng2), g2, g3⟩
end Go.Proofs.Ytfeeincglijmjaa
