/- Texts of this seat, one behind the other. -/
import Derived.WalkKit
import Derived.WalkSpells
import Derived.WalkLawsBesides
import Derived.Laws.AppendOwnNone
import Derived.Maps.AppendAt
import Derived.Lib.Hide
import Derived.Lib.SlBytesConst
import Derived.Test.YtfeeincglijmjaaProg
import Derived.Deep.RegionHeld3
import Derived.Deep.DrawnRows
import Derived.Lib.AppendZerosOnto
import Derived.Handy
import Derived.Deep.LoopGhost
import Derived.Deep.QuietTactic
import Derived.Lib.SliceRun
import Derived.Laws.IdiomCopy
import Derived.Deep.RegionLaw
import Derived.Laws.NewBlocks
namespace Go.Proofs.Ytfeeincglijmjaa
/- Plain words and laws on memory, over any program: a slice that reads as a list of cells, kept by whatever leaves the memory below a block alone; append onto an owned row. No program is named here. -/
section
open Go.RowKit

theorem addr_add (b o j : Nat) : (⟨b, o, none⟩ : Addr).add j = ⟨b, o + j, none⟩ := by
  unfold Addr.add
  by_cases h : j = 0
  · subst h; simp
  · simp [h]

/-- The slice value `.slice A n c`, its elements of `s` cells each, leads to the cells `xs`; they lie in a block from `lo` on, below `hi`. -/
structure Sl (w : World) (lo hi s : Nat) (A : Option Addr) (n c : Nat) (xs : List Value) : Prop where
  len : xs.length = n * s
  le : n ≤ c
  nil : A = none → c = 0
  at_ : 0 < n → ∃ b o, A = some ⟨b, o, none⟩ ∧ lo ≤ b ∧ b < hi ∧ ∀ j, j < xs.length → w.cell? ⟨b, o + j, none⟩ = xs[j]?

section
variable {w w' : World} {lo hi s n c : Nat} {A : Option Addr} {xs : List Value}
theorem Sl.empty (w : World) (lo hi s : Nat) : Sl w lo hi s none 0 0 [] := ⟨by simp, Nat.le_refl _, fun _ => rfl, fun h => absurd h (by omega)⟩
theorem Sl.keep (h : Sl w lo hi s A n c xs) (hk : ∀ p : Addr, lo ≤ p.block → p.block < hi → w'.cell? p = w.cell? p) : Sl w' lo hi s A n c xs :=
  ⟨h.len, h.le, h.nil, fun hn => by
    obtain ⟨b, o, e, hl, hb, hc⟩ := h.at_ hn
    exact ⟨b, o, e, hl, hb, fun j hj => (hk _ hl hb).trans (hc j hj)⟩⟩
theorem Sl.more {lo' hi' : Nat} (h : Sl w lo hi s A n c xs) (hl : lo' ≤ lo) (hh : hi ≤ hi') : Sl w lo' hi' s A n c xs :=
  ⟨h.len, h.le, h.nil, fun hn => by
    obtain ⟨b, o, e, hl, hb, hc⟩ := h.at_ hn
    exact ⟨b, o, e, by omega, by omega, hc⟩⟩
theorem Sl.below {B : Nat} (h : Sl w lo hi s A n c xs) (hb : Below B w w') (hB : hi ≤ B) : Sl w' lo hi s A n c xs := h.keep fun _ _ hp => hb.cell (by omega)
theorem Sl.drew (h : Sl w lo hi s A n c xs) : Sl w.drew lo hi s A n c xs := h.keep fun _ _ _ => rfl
theorem Sl.drewN (h : Sl w lo hi s A n c xs) (k : Nat) : Sl (w.drewN k) lo hi s A n c xs := h.keep fun _ _ _ => rfl
theorem Sl.alloc (h : Sl w lo hi s A n c xs) (hB : hi ≤ w.heap.size) (o : Obj) : Sl (w.alloc o) lo hi s A n c xs := h.keep fun p _ hp => World.cell?_alloc_lt w o p (by omega)
theorem Sl.setCell (h : Sl w lo hi s A n c xs) {p : Addr} (hB : p.block < lo ∨ hi ≤ p.block) (u : Value) : Sl (w.setCell p u) lo hi s A n c xs :=
  h.keep fun q _ hq => World.cell?_setCell_other w p q u (fun e => by subst e; omega)
theorem Sl.grown (h : Sl w lo hi s A n c xs) {row : Option Nat} (hg : w.grownBy w' row) (hB : hi ≤ w.heap.size) (hr : ∀ g, row = some g → g < lo ∨ hi ≤ g) : Sl w' lo hi s A n c xs :=
  h.keep fun p _ hp => World.cell?_of_block (hg.block p.block (by omega) (fun e => by have := hr _ e.symm; omega))
/-- A cut `[k : k+m : d]`. -/
theorem Sl.cut (h : Sl w lo hi s A n c xs) {k m d : Nat} (hk : k + m ≤ n) (hd : k + m ≤ d) (hc : d ≤ c) :
    Sl w lo hi s (if d = k then A else A.map (·.add (k * s))) m (d - k) ((xs.drop (k * s)).take (m * s)) := by
  refine ⟨by rw [List.length_take, List.length_drop, h.len, ← Nat.sub_mul]; exact Nat.min_eq_left (Nat.mul_le_mul_right _ (by omega)), by omega, fun hA => ?_, fun hm => ?_⟩
  · have : A = none := by
      by_cases he : d = k
      · rwa [if_pos he] at hA
      · rw [if_neg he] at hA
        simpa using hA
    have := h.nil this
    omega
  · obtain ⟨b, o, rfl, hl, hb, hcell⟩ := h.at_ (by omega)
    rw [if_neg (by omega)]
    refine ⟨b, o + k * s, by simp [addr_add], hl, hb, fun j hj => ?_⟩
    have hl : j < m * s := by rw [List.length_take] at hj; omega
    have hl2 : k * s + j < xs.length := by rw [List.length_take, List.length_drop] at hj; omega
    rw [show o + k * s + j = o + (k * s + j) from by omega, hcell _ hl2, List.getElem?_take_of_lt hl, List.getElem?_drop]
theorem Sl.of_own {base : Nat} {e : TypeId} (h : w.ownsRow base e s (.slice A n c) n xs) : Sl w base w.heap.size s A n c xs := by
  rcases h.2 with ⟨h1, h0⟩ | ⟨g, cap, cur, hv, hbg, hh, hn, _⟩
  · injection h1 with hA _ hc
    subst hA hc h0
    exact ⟨h.1, Nat.le_refl _, fun _ => rfl, fun h => absurd h (by omega)⟩
  · injection hv with hA _ hc
    subst hA hc
    refine ⟨h.1, hn, (fun h => by cases h), fun hn => ⟨g, 0, rfl, hbg, (Array.getElem?_eq_some_iff.1 hh).1, fun j hj => ?_⟩⟩
    have := h.cells (g := g) rfl j _ (List.getElem?_eq_getElem hj)
    rw [addr_add] at this
    rw [this, List.getElem?_eq_getElem hj]
end

theorem own_more {w : World} {base base' : Nat} {e : TypeId} {s : Nat} {v : Value} {n : Nat} {xs : List Value} (h : w.ownsRow base e s v n xs) (hb : base' ≤ base) : w.ownsRow base' e s v n xs := by
  refine ⟨h.1, ?_⟩
  rcases h.2 with h2 | ⟨g, cap, cur, hv, hg, r⟩
  · exact .inl h2
  · exact .inr ⟨g, cap, cur, hv, Nat.le_trans hb hg, r⟩
/-- An owned row stays owned where every block below some bound beyond it stays. -/
theorem own_below {w w' : World} {base B : Nat} {e : TypeId} {s : Nat} {v : Value} {n : Nat} {xs : List Value} (h : w.ownsRow base e s v n xs) (hb : Below B w w') (hB : w.heap.size ≤ B) : w'.ownsRow base e s v n xs := by
  refine ⟨h.1, ?_⟩
  rcases h.2 with h2 | ⟨g, cap, cur, hv, hg, hh, r⟩
  · exact .inl h2
  · exact .inr ⟨g, cap, cur, hv, hg, (hb.block g (by have := (Array.getElem?_eq_some_iff.1 hh).1; omega)).trans hh, r⟩

/-- What lay below a world's end is read later as it was: two rules for the walk. -/
theorem later {B : Nat} {W w1 : World} (hb : Below B W w1) :
    (∀ b o, b < B → w1.cell? ⟨b, o, none⟩ = W.cell? ⟨b, o, none⟩) ∧ (∀ b o, b < B → w1.frozen? ⟨b, o, none⟩ = W.frozen? ⟨b, o, none⟩) ∧ W.heap.size ≤ w1.heap.size :=
  ⟨fun b o h => hb.cell (p := ⟨b, o, none⟩) h, fun b o h => hb.frozen (p := ⟨b, o, none⟩) h, hb.size⟩
/-- Behind an append onto a row that begins at `base` or beyond. -/
theorem grown_below {B : Nat} {W w1 : World} {v : Value} (hg : W.grownBy w1 v.ownBlock) (hB : B ≤ W.heap.size) (hv : ∀ k, v.ownBlock = some k → B ≤ k) : Below B W w1 :=
  (Below.refl B W).grown hg hB hv

/-- An empty row, just made. -/
theorem own_made {W : World} {base g s : Nat} {e : TypeId} (hg : W.heap.size = g) (hb : base ≤ g) : (W.alloc (.cells #[] e)).ownsRow base e s (.slice (some ⟨g, 0, none⟩) 0 0) 0 [] := by
  subst hg
  exact World.ownsRow_made W #[] 0 hb (by unfold maxLen; omega) (by simp)
theorem own_drew {w : World} {base : Nat} {e : TypeId} {s : Nat} {v : Value} {n : Nat} {xs : List Value} (h : w.ownsRow base e s v n xs) : w.drew.ownsRow base e s v n xs := h

/-! ### A block that is known whole: the cells `cs` of type `t`, none of them frozen -/
def Blk (w : World) (g : Nat) (t : TypeId) (cs : Array Value) : Prop := w.heap[g]? = some (.cells cs t (0, 0))
section
variable {w w' : World} {g : Nat} {t : TypeId} {cs : Array Value}
theorem Blk.lt (h : Blk w g t cs) : g < w.heap.size := (Array.getElem?_eq_some_iff.1 h).1
theorem Blk.rules (h : Blk w g t cs) : (∀ i, w.cell? ⟨g, i, none⟩ = cs[i]?) ∧ (∀ i, w.frozen? ⟨g, i, none⟩ = false) :=
  ⟨fun i => cell_of_row w g i cs t (0, 0) h, fun i => by unfold Blk at h; simp [World.frozen?, h]⟩
theorem Blk.new (w : World) (t : TypeId) (cs : Array Value) {g : Nat} (hg : w.heap.size = g) : Blk (w.alloc (.cells cs t)) g t cs := by subst hg; exact heap_alloc_new w _
theorem Blk.drew (h : Blk w g t cs) : Blk w.drew g t cs := h
theorem Blk.drewN (h : Blk w g t cs) (n : Nat) : Blk (w.drewN n) g t cs := h
theorem Blk.alloc (h : Blk w g t cs) (o : Obj) : Blk (w.alloc o) g t cs := (Below.heap_alloc w o g h.lt).trans h
theorem Blk.set_ (h : Blk w g t cs) (i : Nat) (u : Value) : Blk (w.setCell ⟨g, i, none⟩ u) g t (cs.setIfInBounds i u) := by
  unfold Blk at h ⊢
  simp [World.setCell, Array.getElem?_modify, h]
theorem Blk.far (h : Blk w g t cs) {p : Addr} (hp : g ≠ p.block) (u : Value) : Blk (w.setCell p u) g t cs := (Below.heap_setCell w p u g hp).trans h
theorem Blk.later (h : Blk w g t cs) (hb : Below w.heap.size w w') : Blk w' g t cs := (hb.block g h.lt).trans h
theorem Blk.below {B : Nat} (h : Blk w g t cs) (hb : Below B w w') (hg : g < B) : Blk w' g t cs := (hb.block g hg).trans h
theorem Blk.grown {row : Option Nat} (h : Blk w g t cs) (hb : w.grownBy w' row) (hg : some g ≠ row) : Blk w' g t cs := (hb.block g h.lt hg).trans h
end

/-- An owned row stays owned where a block of another element type is written. -/
theorem own_setBlk {w : World} {base : Nat} {e : TypeId} {s : Nat} {v : Value} {n : Nat} {xs : List Value} {g : Nat} {t : TypeId} {cs : Array Value} (h : w.ownsRow base e s v n xs) (hb : Blk w g t cs) (hne : e ≠ t) (i : Nat) (u : Value) :
    (w.setCell ⟨g, i, none⟩ u).ownsRow base e s v n xs := by
  refine ⟨h.1, ?_⟩
  rcases h.2 with h2 | ⟨g', cap, cur, hv, hg, hh, r⟩
  · exact .inl h2
  · refine .inr ⟨g', cap, cur, hv, hg, ?_, r⟩
    rw [Below.heap_setCell _ _ _ _ (fun e' => ?_)]
    · exact hh
    · have e2 : g' = g := e'
      subst e2
      unfold Blk at hb
      rw [hb] at hh
      injection hh with hh
      injection hh with _ ht
      exact hne ht.symm
theorem own_alloc {w : World} {base : Nat} {e : TypeId} {s : Nat} {v : Value} {n : Nat} {xs : List Value} (h : w.ownsRow base e s v n xs) (o : Obj) : (w.alloc o).ownsRow base e s v n xs := World.ownsRow.alloc h o

/-- A whole row, just made. -/
theorem Sl.new (w : World) (t : TypeId) (cs : Array Value) (s n c : Nat) (xs : List Value) {g : Nat} (hg : w.heap.size = g) (hn : n ≤ c) (hx : xs.length = n * s) (hc : cs.toList = xs) :
    Sl (w.alloc (.cells cs t)) g (g + 1) s (some ⟨g, 0, none⟩) n c xs :=
  ⟨hx, hn, (fun h => by cases h), fun _ => ⟨g, 0, rfl, Nat.le_refl _, by omega, fun j hj => by
    rw [Nat.zero_add, (Blk.new w t cs hg).rules.1 j, ← hc, Array.getElem?_toList]⟩⟩

/-- A whole row that bears the mark of a string's bytes, just made. -/
theorem Sl.newM (w : World) (t : TypeId) (cs : Array Value) (fr : Nat × Nat) (s n c : Nat) (xs : List Value) {g : Nat} (hg : w.heap.size = g) (hn : n ≤ c) (hx : xs.length = n * s) (hc : cs.toList = xs) :
    Sl (w.alloc (.cells cs t fr)) g (g + 1) s (some ⟨g, 0, none⟩) n c xs :=
  ⟨hx, hn, (fun h => by cases h), fun _ => ⟨g, 0, rfl, Nat.le_refl _, by omega, fun j hj => by
    subst hg
    rw [Nat.zero_add, World.cell?_alloc_mark, ← hc, Array.getElem?_toList]⟩⟩

/-! ### Bytes -/
/-- The cells of bytes. -/
def byteCells (l : List UInt8) : List Value := l.map fun b => .int .u8 (b.toNat : Int)
theorem byteCells_length (l : List UInt8) : (byteCells l).length = l.length := by simp [byteCells]
theorem byteCells_append (l m : List UInt8) : byteCells (l ++ m) = byteCells l ++ byteCells m := by simp [byteCells]
theorem byteCells_take (l : List UInt8) (n : Nat) : (byteCells l).take n = byteCells (l.take n) := by simp [byteCells]
theorem byteCells_drop (l : List UInt8) (n : Nat) : (byteCells l).drop n = byteCells (l.drop n) := by simp [byteCells]
theorem byteCells_one (l : List UInt8) : ∀ u ∈ byteCells l, u.oneCell' = true := by
  intro u hu
  simp only [byteCells, List.mem_map] at hu
  obtain ⟨b, _, rfl⟩ := hu
  rfl
theorem byteCells_at {l : List UInt8} {j : Nat} (h : j < l.length) : (byteCells l)[j]? = some (.int .u8 (l[j].toNat : Int)) := by
  simp [byteCells, List.getElem?_eq_getElem h]

/-- `string(b)` where b reads as the bytes `l`. -/
theorem run_string_of {P : Program} {w : World} {lo hi : Nat} {A : Option Addr} {n c : Nat} {l : List UInt8} {src dst e : TypeId} (hr : Sl w lo hi 1 A n c (byteCells l))
    (hs : P.underlying src = some (.slice e)) (he : P.underlying e = some (.int .u8)) (hd : P.underlying dst = some .string) :
    (convert src dst (.slice A n c)).run P w = .ok (.string ⟨l.toArray⟩) w := by
  have hn : n = l.length := by have := hr.len; rw [byteCells_length] at this; omega
  subst hn
  rcases Nat.eq_zero_or_pos l.length with h0 | h0
  · have hl : l = [] := List.eq_nil_of_length_eq_zero h0
    subst hl
    rcases A with _ | ad
    · rw [run_convert_bytes_string w src dst e none _ c hs he hd]
      simp [Conv.bytesToString, Sem.run_pure]
      rfl
    · exact run_convert_bytes_back w src dst e ad c [] hs he hd (fun j hj => absurd hj (by simp))
  · obtain ⟨b, o, rfl, _, _, hc⟩ := hr.at_ h0
    refine run_convert_bytes_back w src dst e ⟨b, o, none⟩ c l hs he hd (fun j hj => ?_)
    rw [addr_add, hc j (by rw [byteCells_length]; exact hj), byteCells_at hj]

/-! ### Cuts, their address under a name -/
section
variable {P : Program} {t e : TypeId} {i : TypeInfo} {s : Nat}
theorem elem_of (ht : P.underlying t = some (.slice e)) : P.elem t = e := by simp [Program.elem, ht]
theorem size_of (w : World) (hi : P.info? e = some i) (hs : i.size = s) : (sizeOf e).run P w = .ok s w := by simp [sizeOf, typeInfo, hi, hs]
/-- `x[k : k+m : d]` -/
theorem cut_lhm (ht : P.underlying t = some (.slice e)) (hi : P.info? e = some i) (hs : i.size = s) {w : World} {lo up : Nat} {A : Option Addr} {n c : Nat} {xs : List Value} (h : Sl w lo up s A n c xs)
    (k m d : Nat) (L H M : Int) (hL : L = k) (hH : H = k + m) (hM : M = d) (hk : k + m ≤ n) (hd : k + m ≤ d) (hc : d ≤ c) :
    ∃ A', (∀ w', (Instr.slice t (.slice A n c) (some (.int .i64 L)) (some (.int .i64 H)) (some (.int .i64 M))).run P w' = .ok (.slice A' m (d - k)) w') ∧ Sl w lo up s A' m (d - k) ((xs.drop (k * s)).take (m * s)) := by
  refine ⟨_, fun w' => ?_, h.cut hk hd hc⟩
  have ht' : P.underlying t = some (.slice (P.elem t)) := by rw [elem_of ht]; exact ht
  rw [run_slice_lhm (P := P) w' t A n c ht' .i64 .i64 .i64 L H M (by omega) (by omega) (by omega) (by omega), elem_of ht, size_of w' hi hs]
  simp only [Result.andThen_ok, sliced]
  rw [show L.toNat = k from by omega, show H.toNat = k + m from by omega, show M.toNat = d from by omega, show k + m - k = m from by omega]
/-- `x[k : k+m]` -/
theorem cut_lh (ht : P.underlying t = some (.slice e)) (hi : P.info? e = some i) (hs : i.size = s) {w : World} {lo up : Nat} {A : Option Addr} {n c : Nat} {xs : List Value} (h : Sl w lo up s A n c xs)
    (k m : Nat) (L H : Int) (hL : L = k) (hH : H = k + m) (hk : k + m ≤ n) :
    ∃ A', (∀ w', (Instr.slice t (.slice A n c) (some (.int .i64 L)) (some (.int .i64 H)) none).run P w' = .ok (.slice A' m (c - k)) w') ∧ Sl w lo up s A' m (c - k) ((xs.drop (k * s)).take (m * s)) := by
  refine ⟨_, fun w' => ?_, h.cut hk (Nat.le_trans hk h.le) (Nat.le_refl _)⟩
  have hle := h.le
  have ht' : P.underlying t = some (.slice (P.elem t)) := by rw [elem_of ht]; exact ht
  rw [run_slice_lh (P := P) w' t A n c ht' .i64 .i64 L H (by omega) (by omega) (by omega), elem_of ht, size_of w' hi hs]
  simp only [Result.andThen_ok, sliced]
  rw [show L.toNat = k from by omega, show H.toNat = k + m from by omega, show k + m - k = m from by omega]
/-- `x[k :]` -/
theorem cut_l (ht : P.underlying t = some (.slice e)) (hi : P.info? e = some i) (hs : i.size = s) {w : World} {lo up : Nat} {A : Option Addr} {n c : Nat} {xs : List Value} (h : Sl w lo up s A n c xs)
    (k m : Nat) (L : Int) (hL : L = k) (hk : k + m = n) :
    ∃ A', (∀ w', (Instr.slice t (.slice A n c) (some (.int .i64 L)) none none).run P w' = .ok (.slice A' m (c - k)) w') ∧ Sl w lo up s A' m (c - k) (xs.drop (k * s)) := by
  have hcut := h.cut (k := k) (m := m) (d := c) (by omega) (by have := h.le; omega) (Nat.le_refl _)
  rw [List.take_of_length_le (by rw [List.length_drop, h.len, ← hk, Nat.add_mul]; omega)] at hcut
  refine ⟨_, fun w' => ?_, hcut⟩
  have hle := h.le
  have ht' : P.underlying t = some (.slice (P.elem t)) := by rw [elem_of ht]; exact ht
  rw [run_slice_l (P := P) w' t A n c ht' .i64 L (by omega) (by omega), elem_of ht, size_of w' hi hs]
  simp only [Result.andThen_ok, sliced]
  rw [show L.toNat = k from by omega, show n - k = m from by omega]
/-- `x[: m]` -/
theorem cut_h (ht : P.underlying t = some (.slice e)) (hi : P.info? e = some i) (hs : i.size = s) {w : World} {lo up : Nat} {A : Option Addr} {n c : Nat} {xs : List Value} (h : Sl w lo up s A n c xs)
    (m : Nat) (H : Int) (hH : H = m) (hk : m ≤ n) :
    ∃ A', (∀ w', (Instr.slice t (.slice A n c) none (some (.int .i64 H)) none).run P w' = .ok (.slice A' m c) w') ∧ Sl w lo up s A' m c (xs.take (m * s)) := by
  have hle := h.le
  have hcut := h.cut (k := 0) (m := m) (d := c) (by omega) (by omega) (Nat.le_refl _)
  simp only [Nat.zero_mul, List.drop_zero, Nat.sub_zero] at hcut
  refine ⟨_, fun w' => ?_, hcut⟩
  have ht' : P.underlying t = some (.slice (P.elem t)) := by rw [elem_of ht]; exact ht
  rw [run_slice_h (P := P) w' t A n c ht' .i64 H (by omega) (by omega), elem_of ht, size_of w' hi hs]
  simp only [Result.andThen_ok, sliced]
  rw [show H.toNat = m from by omega]
  simp
end

/-! ### append onto an owned row, the source nil, empty or not -/
section
variable {P : Program} (w : World)

theorem run_append_sl (base : Nat) (t ty e : TypeId) (i : TypeInfo) (z : Value) (size bytes : Nat) (ht : P.underlying t = some (.slice e)) (hi : P.info? e = some i) (hz : i.zero = some z)
    (hsize : i.size = size) (hby : i.bytes = bytes) (hzs : z.cells.size = size) (hsz : 0 < size)
    (v : Value) (n : Nat) (xs : List Value) (hown : w.ownsRow base e size v n xs)
    (lo up : Nat) (A : Option Addr) (m c : Nat) (news : List Value) (hr : Sl w lo up size A m c news) (h1 : ∀ u ∈ news, u.oneCell' = true)
    (k : Nat) (hk : n + m = k) (ys : List Value) (hys : xs ++ news = ys)
    (h63 : k ≤ maxLen) (hbytes : k * bytes ≤ 140737488355328) (hbase : base ≤ w.heap.size) :
    ∃ A' c' w', (Builtin.append_ #[t, t] ty #[v, .slice A m c]).run P w = .ok (.slice A' k c') w' ∧ w'.ownsRow base e size (.slice A' k c') k ys ∧ w.grownBy w' v.ownBlock := by
  subst hk
  subst hys
  have key : ∃ v' w', (Builtin.append_ #[t, t] ty #[v, .slice A m c]).run P w = .ok v' w' ∧ w'.ownsRow base e size v' (n + m) (xs ++ news) ∧ w.grownBy w' v.ownBlock := by
    rcases A with _ | ad
    · have hm : m = 0 := by
        rcases Nat.eq_zero_or_pos m with h0 | h0
        · exact h0
        · obtain ⟨_, _, h, _⟩ := hr.at_ h0
          cases h
      subst hm
      have hn : news = [] := List.eq_nil_of_length_eq_zero (by simpa using hr.len)
      subst hn
      obtain rfl := hr.nil rfl
      exact ⟨v, w, run_append_owned_none (P := P) w base t ty e i size ht hi v n xs hown, by simpa using hown, ⟨rfl, rfl, rfl, Nat.le_refl _, fun _ _ _ => rfl⟩⟩
    · have hcells : ∀ j u, news[j]? = some u → w.cell? (ad.add j) = some u := by
        intro j u hu
        have hj : j < news.length := (List.getElem?_eq_some_iff.1 hu).1
        have hm : 0 < m := by
          rcases Nat.eq_zero_or_pos m with h0 | h0
          · have := hr.len; rw [h0] at this; omega
          · exact h0
        obtain ⟨b, o, e, _, _, hc⟩ := hr.at_ hm
        injection e with e
        subst e
        rw [addr_add, hc j hj, hu]
      obtain ⟨v', w', hrun, h2, h3, _⟩ := run_append_own (P := P) w base t ty e i z size bytes ht hi hz hsize hby hzs hsz v n xs hown ad m c news hr.len hcells h1 h63 hbytes hbase
      exact ⟨v', w', hrun, h2, h3⟩
  obtain ⟨v', w', hrun, h2, h3⟩ := key
  rcases h2.2 with ⟨rfl, h0⟩ | ⟨g, cap, cur, rfl, _⟩
  · have hn : n + m = 0 := h0
    refine ⟨none, 0, w', by rw [hn]; exact hrun, by rw [hn] at h2 ⊢; exact h2, h3⟩
  · exact ⟨_, _, w', hrun, h2, h3⟩

theorem wp_append_sl {o : Oper} {a : Act} {K : Act → World → Prop} {Q : Exit → Act → World → Prop} (s x : Operand) (t : TypeId)
    (ho : o.op = .call { callee := .builtin .append, args := #[s, x], argTypes := #[t, t] })
    (base : Nat) (e : TypeId) (i : TypeInfo) (z : Value) (size bytes : Nat) (ht : P.underlying t = some (.slice e)) (hi : P.info? e = some i) (hz : i.zero = some z)
    (hsize : i.size = size) (hby : i.bytes = bytes) (hzs : z.cells.size = size) (hsz : 0 < size)
    (v : Value) (n : Nat) (xs : List Value) (hs : a.eval s = v) (hown : w.ownsRow base e size v n xs)
    (lo up : Nat) (A : Option Addr) (m c : Nat) (news : List Value) (hx : a.eval x = .slice A m c) (hr : Sl w lo up size A m c news) (h1 : ∀ u ∈ news, u.oneCell' = true)
    (k : Nat) (hk : n + m = k) (ys : List Value) (hys : xs ++ news = ys)
    (h63 : k ≤ maxLen) (hbytes : k * bytes ≤ 140737488355328) (hbase : base ≤ w.heap.size)
    (h : ∀ A' c' w', w'.ownsRow base e size (.slice A' k c') k ys → w.grownBy w' v.ownBlock → K (a.put o.dst (.slice A' k c')) w') : o.wp P a w K Q := by
  obtain ⟨A', c', w', hrun, h2, h3⟩ := run_append_sl (P := P) w base t o.type e i z size bytes ht hi hz hsize hby hzs hsz v n xs hown lo up A m c news hr h1 k hk ys hys h63 hbytes hbase
  unfold Oper.wp execOp
  simp only [ho, resolve, invoke, builtin, Sem.run_bind, Sem.run_pure, Result.andThen_ok, List.map_toArray, List.map_cons, List.map_nil, hs, hx, hrun]
  exact h A' c' w' h2 h3

theorem wpList_append_sl {ops : Array Oper} {rest : List Oper} {o : Oper} {a : Act} {Q : Exit → Act → World → Prop} (hgd : o.guard = none) (s x : Operand) (t : TypeId)
    (ho : o.op = .call { callee := .builtin .append, args := #[s, x], argTypes := #[t, t] })
    (base : Nat) (e : TypeId) (i : TypeInfo) (z : Value) (size bytes : Nat) (ht : P.underlying t = some (.slice e)) (hi : P.info? e = some i) (hz : i.zero = some z)
    (hsize : i.size = size) (hby : i.bytes = bytes) (hzs : z.cells.size = size) (hsz : 0 < size)
    (v : Value) (n : Nat) (xs : List Value) (hs : a.eval s = v) (hown : w.ownsRow base e size v n xs)
    (lo up : Nat) (A : Option Addr) (m c : Nat) (news : List Value) (hx : a.eval x = .slice A m c) (hr : Sl w lo up size A m c news) (h1 : ∀ u ∈ news, u.oneCell' = true)
    (k : Nat) (hk : n + m = k) (ys : List Value) (hys : xs ++ news = ys)
    (h63 : k ≤ maxLen) (hbytes : k * bytes ≤ 140737488355328) (hbase : base ≤ w.heap.size)
    (h : ∀ A' c' w', w'.ownsRow base e size (.slice A' k c') k ys → w.grownBy w' v.ownBlock → wpList P ops Q rest (a.put o.dst (.slice A' k c')) w') : wpList P ops Q (o :: rest) a w :=
  wpList_plain hgd fun _ hK => wp_append_sl w s x t ho base e i z size bytes ht hi hz hsize hby hzs hsz v n xs hs hown lo up A m c news hx hr h1 k hk ys hys h63 hbytes hbase fun A' c' w' h2 h3 => hK _ _ (h A' c' w' h2 h3)

theorem step_append_sl {ops : Array Oper} {o : Oper} {a : Act} {K : Act → World → Prop} {Q : Exit → Act → World → Prop} {E : Prop} (hgd : o.guard = none) (s x : Operand) (t : TypeId)
    (ho : o.op = .call { callee := .builtin .append, args := #[s, x], argTypes := #[t, t] })
    (base : Nat) (e : TypeId) (i : TypeInfo) (z : Value) (size bytes : Nat) (ht : P.underlying t = some (.slice e)) (hi : P.info? e = some i) (hz : i.zero = some z)
    (hsize : i.size = size) (hby : i.bytes = bytes) (hzs : z.cells.size = size) (hsz : 0 < size)
    (v : Value) (n : Nat) (xs : List Value) (hs : a.eval s = v) (hown : w.ownsRow base e size v n xs)
    (lo up : Nat) (A : Option Addr) (m c : Nat) (news : List Value) (hx : a.eval x = .slice A m c) (hr : Sl w lo up size A m c news) (h1 : ∀ u ∈ news, u.oneCell' = true)
    (k : Nat) (hk : n + m = k) (ys : List Value) (hys : xs ++ news = ys)
    (h63 : k ≤ maxLen) (hbytes : k * bytes ≤ 140737488355328) (hbase : base ≤ w.heap.size)
    (h : ∀ A' c' w', w'.ownsRow base e size (.slice A' k c') k ys → w.grownBy w' v.ownBlock → K (a.put o.dst (.slice A' k c')) w') :
    if Region.wanted o (yielded ops a.tmps) = true then Oper.wp P o a w K Q else E := by
  have hw : Region.wanted o (yielded ops a.tmps) = true := by simp [Region.wanted, hgd]
  rw [if_pos hw]
  exact wp_append_sl w s x t ho base e i z size bytes ht hi hz hsize hby hzs hsz v n xs hs hown lo up A m c news hx hr h1 k hk ys hys h63 hbytes hbase h
end
end

/- The walks of bytes.Clone, varint.Size and the document's Size; the law of append of zeros onto an owned row. -/
section
open Go.RowKit
set_option linter.unusedVariables false
attribute [local go_sem ↓] Go.wp_at_zero Go.wp_at_succ

theorem info5 : (Try.prog.info? 5).map (fun i => (i.zero, i.size, i.bytes)) = some (some (.int .u8 0), 1, 1) := by kernel_rfl

/-- What a slice of bytes of the callee's own is handed back as. -/
def RetB (w : World) (l : List UInt8) (e : Ending) (w' : World) : Prop :=
  ∃ A c, e = .returned (.slice A l.length c) ∧ w'.ownsRow w.heap.size 5 1 (.slice A l.length c) l.length (byteCells l) ∧ Below w.heap.size w w'

theorem clone_any {lo up : Nat} {A : Option Addr} {n c : Nat} {l : List UInt8} {w : World} (hr : Sl w lo up 1 A n c (byteCells l)) (hup : up ≤ w.heap.size) (hn : n ≤ 140737488355328) :
    Calls Try.prog 48 #[.slice A n c] w (RetB w l) := by
  have hl : n = l.length := by have := hr.len; rw [byteCells_length] at this; omega
  obtain ⟨i0, hi0, hz0, hz1, hz2⟩ := info_parts info5
  rcases A with _ | ad
  · have hc := hr.nil rfl
    have hle := hr.le
    obtain rfl : c = 0 := hc
    obtain rfl : n = 0 := by omega
    obtain rfl : l = [] := List.eq_nil_of_length_eq_zero hl.symm
    have q : ∀ (w : World), (binOp .eql 23 (.slice none 0 0) (.slice none 0 0)).run Try.prog w = .ok (.bool true) w := fun w => Lib.run_eql_slice_nil w _ _ none 0 0 0 0 Try.underlying23
    clear hl hle hn hi0 hz0 hz1 hz2 hr hup
    go_enter Try.func48, Try.ntmps48
    go_wp2
    go_ret
    exact ⟨none, 0, rfl, World.ownsRow_nil _ _ _ _, Below.refl _ _⟩
  · subst hl
    have q : ∀ (w : World), (binOp .eql 23 (.slice (some ad) l.length c) (.slice none 0 0)).run Try.prog w = .ok (.bool false) w := fun w => Lib.run_eql_slice_nil w _ _ (some ad) l.length c 0 0 Try.underlying23
    go_enter Try.func48, Try.ntmps48
    go_wp2_with (at_builtin; refine wpList_append_sl _ rfl (.tmp 5) (.tmp 6) _ rfl w.heap.size 5 i0 _ 1 1 Try.underlying23 hi0 hz0 hz1 hz2 rfl (by omega) (.slice (some ⟨w.heap.size, 0, none⟩) 0 0) 0 [] rfl (own_made rfl (Nat.le_refl _)) lo up _ l.length c _ rfl (hr.alloc hup _) (byteCells_one l) l.length (by omega) _ rfl (by unfold maxLen; omega) (by omega) (by simp) ?_; intro A' c' w' hown hg)
    go_ret
    exact ⟨A', c', rfl, hown, ((Below.refl _ _).alloc (Nat.le_refl _) _).grown hg (by simp) (fun k hk => by simp [Value.ownBlock] at hk; omega)⟩

/-- A number's size. -/
def vSize (x : Int) : Nat := if x < 0 ∨ 4611686018427387904 ≤ x then 0 else if x < 64 then 1 else if x < 16384 then 2 else if x < 1073741824 then 4 else 8

theorem size_any {x : Int} {w : World} (hx : -9223372036854775808 ≤ x ∧ x ≤ 9223372036854775807) : Calls Try.prog 104 #[.int .i64 x] w fun e w' => e = .returned (.int .i64 (vSize x : Int)) ∧ w' = w := by
  unfold vSize
  by_cases h0 : x < 0
  · rw [if_pos (.inl h0)]
    go_enter Try.func104, Try.ntmps104
    go_wp2
    go_ret
    exact ⟨rfl, rfl⟩
  by_cases h4 : 4611686018427387904 ≤ x
  · rw [if_pos (.inr h4)]
    have d1 : (x / 64 == 0) = false := by simp; omega
    have d2 : (x / 16384 == 0) = false := by simp; omega
    have d3 : (x / 1073741824 == 0) = false := by simp; omega
    have d4 : (x / 4611686018427387904 == 0) = false := by simp; omega
    go_enter Try.func104, Try.ntmps104
    go_wp2
    go_rounds 5
    go_ret
    exact ⟨rfl, rfl⟩
  rw [if_neg (by omega)]
  by_cases h1 : x < 64
  · rw [if_pos h1]
    have d1 : x / 64 = 0 := by omega
    go_enter Try.func104, Try.ntmps104
    go_wp2
    go_rounds 5
    go_ret
    exact ⟨rfl, rfl⟩
  rw [if_neg h1]
  have d1 : (x / 64 == 0) = false := by simp; omega
  by_cases h2 : x < 16384
  · rw [if_pos h2]
    have d2 : x / 16384 = 0 := by omega
    go_enter Try.func104, Try.ntmps104
    go_wp2
    go_rounds 5
    go_ret
    exact ⟨rfl, rfl⟩
  rw [if_neg h2]
  have d2 : (x / 16384 == 0) = false := by simp; omega
  by_cases h3 : x < 1073741824
  · rw [if_pos h3]
    have d3 : x / 1073741824 = 0 := by omega
    go_enter Try.func104, Try.ntmps104
    go_wp2
    go_rounds 5
    go_ret
    exact ⟨rfl, rfl⟩
  rw [if_neg h3]
  have d3 : (x / 1073741824 == 0) = false := by simp; omega
  have d4 : x / 4611686018427387904 = 0 := by omega
  go_enter Try.func104, Try.ntmps104
  go_wp2
  go_rounds 5
  go_ret
  exact ⟨rfl, rfl⟩

theorem rsize_any {x : Int} {w : World} : Calls Try.prog 95 #[.int .i64 x] w fun e w' => e = .returned (.int .i64 (vSize x : Int)) ∧ w' = w := by
  unfold vSize
  by_cases h0 : x < 0 ∨ 4611686018427387904 ≤ x
  · rw [if_pos h0]
    by_cases h1 : x < 0
    · go_enter Try.func95, Try.ntmps95
      go_wp2
      go_ret
      exact ⟨rfl, rfl⟩
    · have h2 : 4611686018427387904 ≤ x := by omega
      go_enter Try.func95, Try.ntmps95
      go_wp2
      go_ret
      exact ⟨rfl, rfl⟩
  rw [if_neg h0]
  have h01 : ¬ x < 0 := by omega
  have h02 : ¬ 4611686018427387904 ≤ x := by omega
  clear h0
  by_cases h1 : x < 64
  · rw [if_pos h1]
    go_enter Try.func95, Try.ntmps95
    go_wp2
    go_ret
    exact ⟨rfl, rfl⟩
  rw [if_neg h1]
  by_cases h2 : x < 16384
  · rw [if_pos h2]
    go_enter Try.func95, Try.ntmps95
    go_wp2
    go_ret
    exact ⟨rfl, rfl⟩
  rw [if_neg h2]
  by_cases h3 : x < 1073741824
  · rw [if_pos h3]
    go_enter Try.func95, Try.ntmps95
    go_wp2
    go_ret
    exact ⟨rfl, rfl⟩
  rw [if_neg h3]
  go_enter Try.func95, Try.ntmps95
  go_wp2
  go_ret
  exact ⟨rfl, rfl⟩

theorem zeroCells_one (z : Value) (k : Nat) (hz : z.cells = #[z]) : (Builtin.zeroCells z.cells k).toList = List.replicate k z := by
  rw [hz]
  apply List.ext_getElem
  · simp [Builtin.zeroCells]
  · intro i h1 h2
    simp [Builtin.zeroCells, Nat.mod_one]

/-- `append(s, make([]T, k)...)` onto an owned row, elements of one cell: the row's block afterwards, whole. -/
theorem run_append_zeros_own {P : Program} (w : World) (base : Nat) (t tn ty e : TypeId) (i : TypeInfo) (z : Value) (kq kn : IntKind) (ht : P.underlying t = some (.slice e)) (htn : P.underlying tn = some (.int kn))
    (hi : P.info? e = some i) (hz : i.zero = some z) (hsize : i.size = 1) (hby : i.bytes = 1) (hzs : z.cells = #[z]) (h1 : z.oneCell' = true)
    (v : Value) (n : Nat) (xs : List Value) (hown : w.ownsRow base e 1 v n xs) (k : Nat) (h0 : 0 < k) (hfit : n + k ≤ 140737488355328) (hbase : base ≤ w.heap.size) :
    ∃ g c' w' cur tail, (Builtin.append_ #[t, tn] ty #[v, .int kq k]).run P w = .ok (.slice (some ⟨g, 0, none⟩) (n + k) c') w' ∧ Blk w' g e cur ∧ cur.toList = xs ++ List.replicate k z ++ tail ∧ n + k ≤ c' ∧ c' ≤ maxLen ∧ cur.size = c' ∧ base ≤ g ∧ w.grownBy w' v.ownBlock := by
  have hw : IntKind.i64.wrap (k : Int) = k := by rw [IntKind.wrap_i64]; omega
  have hneg : ¬ ((k : Int) < 0) := by omega
  have hk0 : k ≠ 0 := by omega
  have hm63 : n + k ≤ maxLen := by unfold maxLen; omega
  have grow : ∀ (A : Option Addr) (cap : Nat), v = .slice A n cap → cap < n + k → (Builtin.firstCells i.size n (.slice A n cap)).run P w.drew = .ok xs.toArray w.drew →
      ∃ g c' w' cur tail, (Builtin.append_ #[t, tn] ty #[v, .int kq k]).run P w = .ok (.slice (some ⟨g, 0, none⟩) (n + k) c') w' ∧ Blk w' g e cur ∧ cur.toList = xs ++ List.replicate k z ++ tail ∧ n + k ≤ c' ∧ c' ≤ maxLen ∧ cur.size = c' ∧ base ≤ g ∧ w.grownBy w' v.ownBlock := by
    rintro A cap rfl hc hold
    have hnx := nextslicecap_le hc
    have hge := grownCap_ge w (n + k) cap e
    have hr := Lib.run_append_grow_zeros (P := P) w t tn ty e i z kq kn ht htn hi hz A n cap xs hold k h0 (by omega) hc (by omega) (by rw [hby]; omega) (by rw [hby]; omega)
    have hl1 : xs.length = n := by simpa using hown.1
    refine ⟨w.heap.size, _, _, _, List.replicate (grownCap w (n + k) cap e - (n + k)) z, hr, heap_alloc_new w.drew _, ?_, hge, grownCap_le_maxLen w (n + k) cap e hm63, ?_, hbase, ⟨rfl, rfl, rfl, by simp, fun j hj _ => Below.heap_alloc w.drew _ j hj⟩⟩
    · simp only [Array.toList_append, zeroCells_one z _ hzs]
    · simp [Builtin.zeroCells, hzs, hl1]
      omega
  rcases hown.2 with ⟨rfl, rfl⟩ | ⟨g, cap, cur, rfl, hbg, hg, hnc, hcm, hcs, htake⟩
  · have hx : xs = [] := List.eq_nil_of_length_eq_zero (by simpa using hown.1)
    subst hx
    exact grow none 0 rfl (by omega) (run_firstCells_none w.drew _ _ _ _)
  · by_cases hroom : n + k ≤ cap
    · have hst := run_storeCells_at P g n e (List.replicate k z) 0 cur w hg (by simp; omega) (by intro u hu; rw [(List.mem_replicate.1 hu).2]; exact h1)
      simp only [Nat.add_zero] at hst
      have hzc : (Builtin.zeroCells z.cells k).toList = List.replicate k z := zeroCells_one z k hzs
      have hb48 : ¬ (281474976710656 < (k : Int)) := by omega
      refine ⟨g, cap, _, (cur.toList.take n ++ List.replicate k z ++ cur.toList.drop (n + k)).toArray, cur.toList.drop (n + k), ?_, setRow_heap w g cur _ e _ hg, ?_, hroom, hcm, ?_, hbg, ⟨rfl, rfl, rfl, by simp, fun k _ hk => setRow_other w g k _ (fun e => hk (by simp [Value.ownBlock, e]))⟩⟩
      · simp [Builtin.append_, run_underlying ht, run_underlying htn, sizeOf, typeInfo, zeroValue, hi, hz, asInt, asIntOf, hw, hneg, hk0, hroom, hsize, hby, hb48, Addr.add_lit, hzc, hst]
      · simp only [Nat.mul_one] at htake
        rw [htake]
      · simp
        omega
    · have hold := run_firstCells_some (P := P) w.drew i.size n ⟨g, 0, none⟩ n cap xs (by rw [hown.1, hsize]) (fun j u hu => hown.cells (g := g) rfl j u hu)
      exact grow _ cap rfl (by omega) hold
end

/- The walks of the document's Same. -/
section
open Go.RowKit
set_option linter.unusedVariables false
set_option linter.unusedSimpArgs false
attribute [local go_sem ↓] Go.wp_at_zero Go.wp_at_succ

/-- The cells of numbers. -/
def intCells (l : List Int) : List Value := l.map fun x => .int .i64 x
theorem intCells_length (l : List Int) : (intCells l).length = l.length := by simp [intCells]
theorem intCells_append (l m : List Int) : intCells (l ++ m) = intCells l ++ intCells m := by simp [intCells]
theorem intCells_one (l : List Int) : ∀ u ∈ intCells l, u.oneCell' = true := by
  intro u hu
  simp only [intCells, List.mem_map] at hu
  obtain ⟨b, _, rfl⟩ := hu
  rfl
theorem intCells_at {l : List Int} {j : Nat} (h : j < l.length) : (intCells l)[j]? = some (.int .i64 l[j]) := by
  simp [intCells, List.getElem?_eq_getElem h]
theorem sli_cell {w : World} {lo up n c : Nat} {A : Option Addr} {l : List Int} (hr : Sl w lo up 1 A n c (intCells l)) (hn : 0 < n) :
    ∃ g o, A = some ⟨g, o, none⟩ ∧ ∀ j (h : j < l.length), w.cell? ⟨g, o + j, none⟩ = some (.int .i64 l[j]) := by
  obtain ⟨g, o, rfl, _, _, hc⟩ := hr.at_ hn
  exact ⟨g, o, rfl, fun j h => by rw [hc j (by rw [intCells_length]; exact h), intCells_at h]⟩
theorem info3 : (Try.prog.info? 3).map (fun i => (i.zero, i.size, i.bytes)) = some (some (.int .i64 0), 1, 8) := by kernel_rfl
end

/- Laws on a row of the callee's own that is written in place: copy, clear, append within its room, for elements of any number of cells; over any program. -/
section
open Go.RowKit
set_option linter.unusedVariables false
set_option linter.unusedSimpArgs false

theorem take_mid (p d : List Value) (v : Value) : (p ++ v :: d).take (p.length + 1) = p ++ [v] := by
  rw [List.append_cons, show p.length + 1 = (p ++ [v]).length from by simp]
  exact List.take_left
theorem drop_mid (p d : List Value) (v : Value) (k : Nat) : (p ++ v :: d).drop (p.length + 1 + k) = d.drop k := by
  rw [List.append_cons, show p.length + 1 + k = (p ++ [v]).length + k from by simp, List.drop_append]
  simp
/-- A row behind the storing of cells from a place on. -/
theorem setCells_row {t : TypeId} {fr : Nat × Nat} (g : Nat) : ∀ (vs : List Value) (o : Nat) (w : World) (cur : Array Value), w.heap[g]? = some (.cells cur t fr) → o + vs.length ≤ cur.size →
    ∃ cur' : Array Value, (w.setCells g o vs).heap[g]? = some (.cells cur' t fr) ∧ cur'.toList = cur.toList.take o ++ vs ++ cur.toList.drop (o + vs.length)
  | [], o, w, cur, h, _ => ⟨cur, h, by simp⟩
  | v :: r, o, w, cur, h, hl => by
    have hl' : o + 1 + r.length ≤ cur.size := by simp only [List.length_cons] at hl; omega
    have h1 : (w.setCell ⟨g, o, none⟩ v).heap[g]? = some (.cells (cur.setIfInBounds o v) t fr) := by simp [World.setCell, Array.getElem?_modify, h]
    obtain ⟨cur', h2, h3⟩ := setCells_row g r (o + 1) _ _ h1 (by simpa using hl')
    refine ⟨cur', h2, ?_⟩
    have ho : o < cur.toList.length := by rw [Array.length_toList]; omega
    have hlt : (cur.toList.take o).length = o := by rw [List.length_take]; omega
    have e : (cur.setIfInBounds o v).toList = cur.toList.take o ++ v :: cur.toList.drop (o + 1) := by
      rw [Array.toList_setIfInBounds, List.set_eq_take_append_cons_drop, if_pos ho]
    have t1 := take_mid (cur.toList.take o) (cur.toList.drop (o + 1)) v
    have t2 := drop_mid (cur.toList.take o) (cur.toList.drop (o + 1)) v r.length
    rw [hlt] at t1 t2
    rw [h3, e, t1, t2, List.drop_drop, show o + 1 + r.length = o + (v :: r).length from by simp only [List.length_cons]; omega]
    simp
theorem grownBy_setCells (g : Nat) : ∀ (vs : List Value) (o : Nat) (w : World), w.grownBy (w.setCells g o vs) (some g)
  | [], o, w => ⟨rfl, rfl, rfl, Nat.le_refl _, fun _ _ _ => rfl⟩
  | v :: r, o, w => by
    have h := grownBy_setCells g r (o + 1) (w.setCell ⟨g, o, none⟩ v)
    exact ⟨h.os, h.tape, h.output, by have := h.size; rw [World.setCells]; simpa using this, fun k hk hne => by
      rw [World.setCells, h.block k (by simpa using hk) hne]
      exact Below.heap_setCell w ⟨g, o, none⟩ v k (fun e => hne (by rw [e]))⟩
theorem grownBy_trans {w w1 w2 : World} {row : Option Nat} (h : w.grownBy w1 row) (h2 : w1.grownBy w2 row) : w.grownBy w2 row :=
  ⟨h2.os.trans h.os, h2.tape.trans h.tape, h2.output.trans h.output, Nat.le_trans h.size h2.size, fun k hk hne => (h2.block k (Nat.lt_of_lt_of_le hk h.size) hne).trans (h.block k hk hne)⟩
theorem grownBy_refl (w : World) (row : Option Nat) : w.grownBy w row := ⟨rfl, rfl, rfl, Nat.le_refl _, fun _ _ _ => rfl⟩
theorem grownBy_drew {w w1 : World} {row : Option Nat} (h : w.grownBy w1 row) : w.grownBy w1.drew row := ⟨h.os, h.tape, h.output, h.size, h.block⟩
theorem grownBy_drewN {w w1 : World} {row : Option Nat} (h : w.grownBy w1 row) (k : Nat) : w.grownBy (w1.drewN k) row := ⟨h.os, h.tape, h.output, h.size, h.block⟩
theorem grownBy_below {w w1 : World} {row : Option Nat} {B : Nat} (h : Below B w w1) (hB : w.heap.size ≤ B) : w.grownBy w1 row :=
  ⟨h.os, h.tape, h.output, h.size, fun k hk _ => h.block k (by omega)⟩

/-- A row that is the callee's own, with elements in it, taken apart. -/
theorem own_split {w : World} {base s n c : Nat} {e : TypeId} {A : Option Addr} {xs : List Value} (h : w.ownsRow base e s (.slice A n c) n xs) (hn : 0 < n) :
    ∃ g cur, A = some ⟨g, 0, none⟩ ∧ base ≤ g ∧ w.heap[g]? = some (.cells cur e (0, 0)) ∧ n ≤ c ∧ c ≤ maxLen ∧ cur.size = c * s ∧ cur.toList.take (n * s) = xs := by
  rcases h.2 with ⟨_, h0⟩ | ⟨g, cap, cur, hv, hb, hg, hnc, hcm, hcs, ht⟩
  · omega
  · injection hv with hA _ hc
    subst hA hc
    exact ⟨g, cur, rfl, hb, hg, hnc, hcm, hcs, ht⟩
theorem own_mk {w : World} {base s n c g : Nat} {e : TypeId} {cur : Array Value} {xs : List Value} (hb : base ≤ g) (hg : w.heap[g]? = some (.cells cur e (0, 0))) (hnc : n ≤ c) (hcm : c ≤ maxLen) (hcs : cur.size = c * s) (ht : cur.toList.take (n * s) = xs) :
    w.ownsRow base e s (.slice (some ⟨g, 0, none⟩) n c) n xs :=
  ⟨by rw [← ht, List.length_take, Array.length_toList, hcs]; exact Nat.min_eq_left (Nat.mul_le_mul_right _ hnc), .inr ⟨g, c, cur, rfl, hb, hg, hnc, hcm, hcs, ht⟩⟩
theorem row_cell {w : World} {g : Nat} {e : TypeId} {cur : Array Value} (hg : w.heap[g]? = some (.cells cur e (0, 0))) (j : Nat) (hj : j < cur.size) : (w.cell? ⟨g, j, none⟩).isSome = true ∧ w.frozen? ⟨g, j, none⟩ = false := by
  refine ⟨?_, by simp [World.frozen?, hg]⟩
  rw [cell_of_row w g j cur e (0, 0) hg, Array.getElem?_eq_getElem hj]
  rfl

section
variable {P : Program}
theorem run_copy_sized (w : World) (dT sT ty elem : TypeId) (size : Nat) (b o dLen dCap : Nat) (a : Addr) (sLen sCap : Nat) (cs : List Value)
    (hu : P.underlying dT = some (.slice elem)) (hs : (P.info? elem).map (·.size) = some size) (hn : cs.length = Nat.min sLen dLen * size)
    (hsrc : ∀ j v, cs[j]? = some v → w.cell? (a.add j) = some v) (hc : ∀ j, j < cs.length → (w.cell? ⟨b, o + j, none⟩).isSome = true) (hf : ∀ j, j < cs.length → w.frozen? ⟨b, o + j, none⟩ = false) (h1 : ∀ v ∈ cs, v.oneCell' = true) :
    (Builtin.copy_ #[dT, sT] ty #[.slice (some ⟨b, o, none⟩) dLen dCap, .slice (some a) sLen sCap]).run P w = .ok (goInt (Nat.min sLen dLen)) (w.setCells b o cs) := by
  have hl := run_loadCells_list (P := P) w a cs hsrc
  have hst := run_storeCells_cells (P := P) b o cs 0 w (by simpa using hc) (by simpa using hf) h1
  cases hq : P.info? elem with
  | none => simp [hq] at hs
  | some i =>
    have hi : i.size = size := by simpa [hq] using hs
    simp [Builtin.copy_, run_underlying hu, Builtin.lenOf, Builtin.firstCells, sizeOf, typeInfo, hq, hi, ← hn, hl, hst]
theorem run_clear_sized (w : World) (t e ty : TypeId) (z : Value) (ht : P.underlying t = some (.slice e)) (hv : ∀ w, (zeroValue e).run P w = .ok z w) (h1 : ∀ u ∈ (Builtin.zeroCells z.cells 1).toList, u.oneCell' = true) (b o c : Nat)
    (hc : ∀ j, j < (Builtin.zeroCells z.cells 1).toList.length → (w.cell? ⟨b, o + j, none⟩).isSome = true) (hf : ∀ j, j < (Builtin.zeroCells z.cells 1).toList.length → w.frozen? ⟨b, o + j, none⟩ = false) :
    (Builtin.clear_ #[t] ty #[.slice (some ⟨b, o, none⟩) 1 c]).run P w = .ok (.tuple #[]) (w.setCells b o (Builtin.zeroCells z.cells 1).toList) := by
  have hst := run_storeCells_cells (P := P) b o (Builtin.zeroCells z.cells 1).toList 0 w (by simpa using hc) (by simpa using hf) h1
  simp only [Nat.add_zero] at hst
  simp [Builtin.clear_, run_underlying ht, hv, hst]

theorem wp_copy_eq (w : World) {o : Oper} {a : Act} {K : Act → World → Prop} {Q : Exit → Act → World → Prop} (d s : Operand) (t t' : TypeId)
    (ho : o.op = .call { callee := .builtin .copy, args := #[d, s], argTypes := #[t, t'] }) (v u : Value) (hd : a.eval d = v) (hs : a.eval s = u) {v' : Value} {w' : World}
    (hr : (Builtin.copy_ #[t, t'] o.type #[v, u]).run P w = .ok v' w') (h : K (a.put o.dst v') w') : o.wp P a w K Q := by
  unfold Oper.wp execOp
  simp only [ho, resolve, invoke, builtin, Sem.run_bind, Sem.run_pure, Result.andThen_ok, List.map_toArray, List.map_cons, List.map_nil, hd, hs, hr]
  exact h
theorem wpList_copy_eq (w : World) {ops : Array Oper} {rest : List Oper} {o : Oper} {a : Act} {Q : Exit → Act → World → Prop} (hgd : o.guard = none) (d s : Operand) (t t' : TypeId)
    (ho : o.op = .call { callee := .builtin .copy, args := #[d, s], argTypes := #[t, t'] }) (v u : Value) (hd : a.eval d = v) (hs : a.eval s = u) {v' : Value} {w' : World}
    (hr : (Builtin.copy_ #[t, t'] o.type #[v, u]).run P w = .ok v' w') (h : wpList P ops Q rest (a.put o.dst v') w') : wpList P ops Q (o :: rest) a w :=
  wpList_plain hgd fun _ hK => wp_copy_eq w d s t t' ho v u hd hs hr (hK _ _ h)
theorem step_copy_eq {ops : Array Oper} {o : Oper} {a : Act} {w : World} {K : Act → World → Prop} {Q : Exit → Act → World → Prop} {E : Prop}
    (hg : o.guard = none) (d x : Operand) (dT sT : TypeId) (hop : o.op = Op.call { callee := Callee.builtin Builtin.copy, args := #[d, x], argTypes := #[dT, sT] })
    (v u : Value) (hd : a.eval d = v) (hx : a.eval x = u) {v' : Value} {w' : World} (hr : (Builtin.copy_ #[dT, sT] o.type #[v, u]).run P w = .ok v' w') (hK : K (a.put o.dst v') w') :
    if Region.wanted o (yielded ops a.tmps) = true then Oper.wp P o a w K Q else E := by
  have hw : Region.wanted o (yielded ops a.tmps) = true := by simp [Region.wanted, hg]
  rw [if_pos hw]
  exact wp_copy_eq w d x dT sT hop v u hd hx hr hK
end

/-- What two writes into one row leave: some cells taken out. -/
theorem cut_out {xs : List Value} {L z : List Value} {s n k : Nat} (hx : xs.length = n * s) (hk : k < n) :
    k * s + (xs.drop ((k + 1) * s)).length = (n - 1) * s := by
  rw [List.length_drop, hx]
  have h1 : (k + 1) * s ≤ n * s := Nat.mul_le_mul_right _ hk
  have h2 : (n - 1) * s + s = n * s := by
    rw [← Nat.succ_mul, show (n - 1).succ = n from by omega]
  rw [Nat.succ_mul] at h1 ⊢
  omega
end

/- The law of append onto an owned row, with a word on the block in which the result lies: the old one, or one that is new. Over any program. -/
section
open Go.RowKit
set_option linter.unusedVariables false
section
variable {P : Program} (w : World)

theorem append_own_block (base : Nat) (t ty e : TypeId) (i : TypeInfo) (z : Value) (size bytes : Nat) (ht : P.underlying t = some (.slice e)) (hi : P.info? e = some i) (hz : i.zero = some z)
    (hsize : i.size = size) (hby : i.bytes = bytes) (hzs : z.cells.size = size) (hsz : 0 < size)
    (v : Value) (n : Nat) (xs : List Value) (hown : w.ownsRow base e size v n xs)
    (a : Addr) (m c : Nat) (news : List Value) (hl : news.length = m * size) (hnews : ∀ j u, news[j]? = some u → w.cell? (a.add j) = some u) (h1 : ∀ u ∈ news, u.oneCell' = true)
    (h63 : n + m ≤ maxLen) (hbytes : (n + m) * bytes ≤ 140737488355328) {v' : Value} {w' : World}
    (hrun : (Builtin.append_ #[t, t] ty #[v, .slice (some a) m c]).run P w = .ok v' w') : ∀ g, v'.ownBlock = some g → v.ownBlock = some g ∨ w.heap.size ≤ g := by
  intro g hg
  have hsmall : n + m ≤ 9223372036854775807 := by simp only [maxLen] at h63; omega
  rcases hown.2 with ⟨rfl, rfl⟩ | ⟨g0, cap, cur, rfl, hbg, hgr, hnc, hcm, hcs, htake⟩
  · have hx : xs = [] := List.eq_nil_of_length_eq_zero (by simpa using hown.1)
    subst hx
    obtain ⟨v2, w2, hr2, h2, _, _⟩ := run_append_own (P := P) w w.heap.size t ty e i z size bytes ht hi hz hsize hby hzs hsz _ 0 [] (World.ownsRow_nil _ _ _ _) a m c news hl hnews h1 h63 hbytes (Nat.le_refl _)
    rw [hrun] at hr2
    injection hr2 with e1 e2
    subst e1 e2
    exact .inr (h2.lt g hg).1
  · subst hsize hby
    by_cases hroom : n + m ≤ cap
    · have hfit : n * i.size + news.length ≤ cur.size := by rw [hl, hcs, ← Nat.add_mul]; exact Nat.mul_le_mul_right _ hroom
      have hr := run_append_room (P := P) w t ty e i ht hi g0 n cap cur hgr a m c news hl hnews h1 hroom hfit
      rw [hrun] at hr
      injection hr with e1 _
      subst e1
      exact .inl hg
    · have holds : ∀ j u, xs[j]? = some u → w.cell? ((⟨g0, 0, none⟩ : Addr).add j) = some u := hown.cells (g := g0) rfl
      have hr := run_append_grow (P := P) w t ty e i z ht hi hz ⟨g0, 0, none⟩ n cap xs hown.1 holds a m c news hl hnews (by omega) (by omega) (growslice_fits (by omega) hbytes)
      rw [hrun] at hr
      injection hr with e1 _
      subst e1
      simp [Value.ownBlock] at hg
      exact .inr (by omega)

theorem run_append_sl2 (base : Nat) (t ty e : TypeId) (i : TypeInfo) (z : Value) (size bytes : Nat) (ht : P.underlying t = some (.slice e)) (hi : P.info? e = some i) (hz : i.zero = some z)
    (hsize : i.size = size) (hby : i.bytes = bytes) (hzs : z.cells.size = size) (hsz : 0 < size)
    (v : Value) (n : Nat) (xs : List Value) (hown : w.ownsRow base e size v n xs)
    (lo up : Nat) (A : Option Addr) (m c : Nat) (news : List Value) (hr : Sl w lo up size A m c news) (h1 : ∀ u ∈ news, u.oneCell' = true)
    (k : Nat) (hk : n + m = k) (ys : List Value) (hys : xs ++ news = ys)
    (h63 : k ≤ maxLen) (hbytes : k * bytes ≤ 140737488355328) (hbase : base ≤ w.heap.size) :
    ∃ A' c' w', (Builtin.append_ #[t, t] ty #[v, .slice A m c]).run P w = .ok (.slice A' k c') w' ∧ w'.ownsRow base e size (.slice A' k c') k ys ∧ w.grownBy w' v.ownBlock ∧
      ∀ g, Value.ownBlock (.slice A' k c') = some g → v.ownBlock = some g ∨ w.heap.size ≤ g := by
  obtain ⟨A', c', w', hrun, h2, h3⟩ := run_append_sl (P := P) w base t ty e i z size bytes ht hi hz hsize hby hzs hsz v n xs hown lo up A m c news hr h1 k hk ys hys h63 hbytes hbase
  refine ⟨A', c', w', hrun, h2, h3, fun g hg => ?_⟩
  subst hk
  subst hys
  rcases A with _ | ad
  · have hm : m = 0 := by
      rcases Nat.eq_zero_or_pos m with h0 | h0
      · exact h0
      · obtain ⟨_, _, h, _⟩ := hr.at_ h0
        cases h
    subst hm
    obtain rfl := hr.nil rfl
    have hq := run_append_owned_none (P := P) w base t ty e i size ht hi v n xs hown
    rw [hq] at hrun
    injection hrun with e1 _
    rw [← e1] at hg
    exact .inl hg
  · have hcells : ∀ j u, news[j]? = some u → w.cell? (ad.add j) = some u := by
      intro j u hu
      have hj : j < news.length := (List.getElem?_eq_some_iff.1 hu).1
      have hm : 0 < m := by
        rcases Nat.eq_zero_or_pos m with h0 | h0
        · have := hr.len; rw [h0] at this; omega
        · exact h0
      obtain ⟨b, o, e, _, _, hc⟩ := hr.at_ hm
      injection e with e
      subst e
      rw [addr_add, hc j hj, hu]
    exact append_own_block w base t ty e i z size bytes ht hi hz hsize hby hzs hsz v n xs hown ad m c news hr.len hcells h1 h63 hbytes hrun g hg

theorem wpList_append_sl2 {ops : Array Oper} {rest : List Oper} {o : Oper} {a : Act} {Q : Exit → Act → World → Prop} (hgd : o.guard = none) (s x : Operand) (t : TypeId)
    (ho : o.op = .call { callee := .builtin .append, args := #[s, x], argTypes := #[t, t] })
    (base : Nat) (e : TypeId) (i : TypeInfo) (z : Value) (size bytes : Nat) (ht : P.underlying t = some (.slice e)) (hi : P.info? e = some i) (hz : i.zero = some z)
    (hsize : i.size = size) (hby : i.bytes = bytes) (hzs : z.cells.size = size) (hsz : 0 < size)
    (v : Value) (n : Nat) (xs : List Value) (hs : a.eval s = v) (hown : w.ownsRow base e size v n xs)
    (lo up : Nat) (A : Option Addr) (m c : Nat) (news : List Value) (hx : a.eval x = .slice A m c) (hr : Sl w lo up size A m c news) (h1 : ∀ u ∈ news, u.oneCell' = true)
    (k : Nat) (hk : n + m = k) (ys : List Value) (hys : xs ++ news = ys)
    (h63 : k ≤ maxLen) (hbytes : k * bytes ≤ 140737488355328) (hbase : base ≤ w.heap.size)
    (h : ∀ A' c' w', w'.ownsRow base e size (.slice A' k c') k ys → w.grownBy w' v.ownBlock → (∀ g, Value.ownBlock (.slice A' k c') = some g → v.ownBlock = some g ∨ w.heap.size ≤ g) → wpList P ops Q rest (a.put o.dst (.slice A' k c')) w') : wpList P ops Q (o :: rest) a w := by
  refine wpList_plain hgd fun K hK => ?_
  obtain ⟨A', c', w', hrun, h2, h3, h4⟩ := run_append_sl2 (P := P) w base t o.type e i z size bytes ht hi hz hsize hby hzs hsz v n xs hown lo up A m c news hr h1 k hk ys hys h63 hbytes hbase
  unfold Oper.wp execOp
  simp only [ho, resolve, invoke, builtin, Sem.run_bind, Sem.run_pure, Result.andThen_ok, List.map_toArray, List.map_cons, List.map_nil, hs, hx, hrun]
  exact hK _ _ (h A' c' w' h2 h3 h4)
end
end
end Go.Proofs.Ytfeeincglijmjaa
