/- Plain words and laws on memory, over any program: a slice that reads as a list of cells, kept by whatever leaves the memory below a block alone; append onto an owned row. No program is named here. -/
import Derived.WalkKit
import Derived.WalkSpells
import Derived.WalkLawsBesides
import Derived.Laws.AppendOwnNone
import Derived.Maps.AppendAt
import Derived.Lib.Hide
import Derived.Lib.SlBytesConst
namespace Go.Proofs.Ytfeeincglijmjaa
open Go.RowKit

theorem addr_add (b o j : Nat) : (⟨b, o, none⟩ : Addr).add j = ⟨b, o + j, none⟩ := by
  unfold Addr.add
  by_cases h : j = 0
  · subst h; simp
  · simp [h]

/-- The slice value `.slice A n c`, its elements of `s` cells each, leads to the cells `xs`; they lie in a block from `lo` on, below `hi`. -/
structure Sl (w : World) (lo hi s : Nat) (A : Option Addr) (n c : Nat) (xs : List Value) : Prop where
  len : xs.length = n * s
  le : n ≤ c
  nil : A = none → c = 0
  at_ : 0 < n → ∃ b o, A = some ⟨b, o, none⟩ ∧ lo ≤ b ∧ b < hi ∧ ∀ j, j < xs.length → w.cell? ⟨b, o + j, none⟩ = xs[j]?

section
variable {w w' : World} {lo hi s n c : Nat} {A : Option Addr} {xs : List Value}
theorem Sl.empty (w : World) (lo hi s : Nat) : Sl w lo hi s none 0 0 [] := ⟨by simp, Nat.le_refl _, fun _ => rfl, fun h => absurd h (by omega)⟩
theorem Sl.keep (h : Sl w lo hi s A n c xs) (hk : ∀ p : Addr, lo ≤ p.block → p.block < hi → w'.cell? p = w.cell? p) : Sl w' lo hi s A n c xs :=
  ⟨h.len, h.le, h.nil, fun hn => by
    obtain ⟨b, o, e, hl, hb, hc⟩ := h.at_ hn
    exact ⟨b, o, e, hl, hb, fun j hj => (hk _ hl hb).trans (hc j hj)⟩⟩
theorem Sl.more {lo' hi' : Nat} (h : Sl w lo hi s A n c xs) (hl : lo' ≤ lo) (hh : hi ≤ hi') : Sl w lo' hi' s A n c xs :=
  ⟨h.len, h.le, h.nil, fun hn => by
    obtain ⟨b, o, e, hl, hb, hc⟩ := h.at_ hn
    exact ⟨b, o, e, by omega, by omega, hc⟩⟩
theorem Sl.below {B : Nat} (h : Sl w lo hi s A n c xs) (hb : Below B w w') (hB : hi ≤ B) : Sl w' lo hi s A n c xs := h.keep fun _ _ hp => hb.cell (by omega)
theorem Sl.drew (h : Sl w lo hi s A n c xs) : Sl w.drew lo hi s A n c xs := h.keep fun _ _ _ => rfl
theorem Sl.drewN (h : Sl w lo hi s A n c xs) (k : Nat) : Sl (w.drewN k) lo hi s A n c xs := h.keep fun _ _ _ => rfl
theorem Sl.alloc (h : Sl w lo hi s A n c xs) (hB : hi ≤ w.heap.size) (o : Obj) : Sl (w.alloc o) lo hi s A n c xs := h.keep fun p _ hp => World.cell?_alloc_lt w o p (by omega)
theorem Sl.setCell (h : Sl w lo hi s A n c xs) {p : Addr} (hB : p.block < lo ∨ hi ≤ p.block) (u : Value) : Sl (w.setCell p u) lo hi s A n c xs :=
  h.keep fun q _ hq => World.cell?_setCell_other w p q u (fun e => by subst e; omega)
theorem Sl.grown (h : Sl w lo hi s A n c xs) {row : Option Nat} (hg : w.grownBy w' row) (hB : hi ≤ w.heap.size) (hr : ∀ g, row = some g → g < lo ∨ hi ≤ g) : Sl w' lo hi s A n c xs :=
  h.keep fun p _ hp => World.cell?_of_block (hg.block p.block (by omega) (fun e => by have := hr _ e.symm; omega))
/-- A cut `[k : k+m : d]`. -/
theorem Sl.cut (h : Sl w lo hi s A n c xs) {k m d : Nat} (hk : k + m ≤ n) (hd : k + m ≤ d) (hc : d ≤ c) :
    Sl w lo hi s (if d = k then A else A.map (·.add (k * s))) m (d - k) ((xs.drop (k * s)).take (m * s)) := by
  refine ⟨by rw [List.length_take, List.length_drop, h.len, ← Nat.sub_mul]; exact Nat.min_eq_left (Nat.mul_le_mul_right _ (by omega)), by omega, fun hA => ?_, fun hm => ?_⟩
  · have : A = none := by
      by_cases he : d = k
      · rwa [if_pos he] at hA
      · rw [if_neg he] at hA
        simpa using hA
    have := h.nil this
    omega
  · obtain ⟨b, o, rfl, hl, hb, hcell⟩ := h.at_ (by omega)
    rw [if_neg (by omega)]
    refine ⟨b, o + k * s, by simp [addr_add], hl, hb, fun j hj => ?_⟩
    have hl : j < m * s := by rw [List.length_take] at hj; omega
    have hl2 : k * s + j < xs.length := by rw [List.length_take, List.length_drop] at hj; omega
    rw [show o + k * s + j = o + (k * s + j) from by omega, hcell _ hl2, List.getElem?_take_of_lt hl, List.getElem?_drop]
theorem Sl.of_own {base : Nat} {e : TypeId} (h : w.ownsRow base e s (.slice A n c) n xs) : Sl w base w.heap.size s A n c xs := by
  rcases h.2 with ⟨h1, h0⟩ | ⟨g, cap, cur, hv, hbg, hh, hn, _⟩
  · injection h1 with hA _ hc
    subst hA hc h0
    exact ⟨h.1, Nat.le_refl _, fun _ => rfl, fun h => absurd h (by omega)⟩
  · injection hv with hA _ hc
    subst hA hc
    refine ⟨h.1, hn, (fun h => by cases h), fun hn => ⟨g, 0, rfl, hbg, (Array.getElem?_eq_some_iff.1 hh).1, fun j hj => ?_⟩⟩
    have := h.cells (g := g) rfl j _ (List.getElem?_eq_getElem hj)
    rw [addr_add] at this
    rw [this, List.getElem?_eq_getElem hj]
end

theorem own_more {w : World} {base base' : Nat} {e : TypeId} {s : Nat} {v : Value} {n : Nat} {xs : List Value} (h : w.ownsRow base e s v n xs) (hb : base' ≤ base) : w.ownsRow base' e s v n xs := by
  refine ⟨h.1, ?_⟩
  rcases h.2 with h2 | ⟨g, cap, cur, hv, hg, r⟩
  · exact .inl h2
  · exact .inr ⟨g, cap, cur, hv, Nat.le_trans hb hg, r⟩
/-- An owned row stays owned where every block below some bound beyond it stays. -/
theorem own_below {w w' : World} {base B : Nat} {e : TypeId} {s : Nat} {v : Value} {n : Nat} {xs : List Value} (h : w.ownsRow base e s v n xs) (hb : Below B w w') (hB : w.heap.size ≤ B) : w'.ownsRow base e s v n xs := by
  refine ⟨h.1, ?_⟩
  rcases h.2 with h2 | ⟨g, cap, cur, hv, hg, hh, r⟩
  · exact .inl h2
  · exact .inr ⟨g, cap, cur, hv, hg, (hb.block g (by have := (Array.getElem?_eq_some_iff.1 hh).1; omega)).trans hh, r⟩

/-- What lay below a world's end is read later as it was: two rules for the walk. -/
theorem later {B : Nat} {W w1 : World} (hb : Below B W w1) :
    (∀ b o, b < B → w1.cell? ⟨b, o, none⟩ = W.cell? ⟨b, o, none⟩) ∧ (∀ b o, b < B → w1.frozen? ⟨b, o, none⟩ = W.frozen? ⟨b, o, none⟩) ∧ W.heap.size ≤ w1.heap.size :=
  ⟨fun b o h => hb.cell (p := ⟨b, o, none⟩) h, fun b o h => hb.frozen (p := ⟨b, o, none⟩) h, hb.size⟩
/-- Behind an append onto a row that begins at `base` or beyond. -/
theorem grown_below {B : Nat} {W w1 : World} {v : Value} (hg : W.grownBy w1 v.ownBlock) (hB : B ≤ W.heap.size) (hv : ∀ k, v.ownBlock = some k → B ≤ k) : Below B W w1 :=
  (Below.refl B W).grown hg hB hv

/-- An empty row, just made. -/
theorem own_made {W : World} {base g s : Nat} {e : TypeId} (hg : W.heap.size = g) (hb : base ≤ g) : (W.alloc (.cells #[] e)).ownsRow base e s (.slice (some ⟨g, 0, none⟩) 0 0) 0 [] := by
  subst hg
  exact World.ownsRow_made W #[] 0 hb (by unfold maxLen; omega) (by simp)
theorem own_drew {w : World} {base : Nat} {e : TypeId} {s : Nat} {v : Value} {n : Nat} {xs : List Value} (h : w.ownsRow base e s v n xs) : w.drew.ownsRow base e s v n xs := h

/-! ### A block that is known whole: the cells `cs` of type `t`, none of them frozen -/
def Blk (w : World) (g : Nat) (t : TypeId) (cs : Array Value) : Prop := w.heap[g]? = some (.cells cs t (0, 0))
section
variable {w w' : World} {g : Nat} {t : TypeId} {cs : Array Value}
theorem Blk.lt (h : Blk w g t cs) : g < w.heap.size := (Array.getElem?_eq_some_iff.1 h).1
theorem Blk.rules (h : Blk w g t cs) : (∀ i, w.cell? ⟨g, i, none⟩ = cs[i]?) ∧ (∀ i, w.frozen? ⟨g, i, none⟩ = false) :=
  ⟨fun i => cell_of_row w g i cs t (0, 0) h, fun i => by unfold Blk at h; simp [World.frozen?, h]⟩
theorem Blk.new (w : World) (t : TypeId) (cs : Array Value) {g : Nat} (hg : w.heap.size = g) : Blk (w.alloc (.cells cs t)) g t cs := by subst hg; exact heap_alloc_new w _
theorem Blk.drew (h : Blk w g t cs) : Blk w.drew g t cs := h
theorem Blk.drewN (h : Blk w g t cs) (n : Nat) : Blk (w.drewN n) g t cs := h
theorem Blk.alloc (h : Blk w g t cs) (o : Obj) : Blk (w.alloc o) g t cs := (Below.heap_alloc w o g h.lt).trans h
theorem Blk.set_ (h : Blk w g t cs) (i : Nat) (u : Value) : Blk (w.setCell ⟨g, i, none⟩ u) g t (cs.setIfInBounds i u) := by
  unfold Blk at h ⊢
  simp [World.setCell, Array.getElem?_modify, h]
theorem Blk.far (h : Blk w g t cs) {p : Addr} (hp : g ≠ p.block) (u : Value) : Blk (w.setCell p u) g t cs := (Below.heap_setCell w p u g hp).trans h
theorem Blk.later (h : Blk w g t cs) (hb : Below w.heap.size w w') : Blk w' g t cs := (hb.block g h.lt).trans h
theorem Blk.below {B : Nat} (h : Blk w g t cs) (hb : Below B w w') (hg : g < B) : Blk w' g t cs := (hb.block g hg).trans h
theorem Blk.grown {row : Option Nat} (h : Blk w g t cs) (hb : w.grownBy w' row) (hg : some g ≠ row) : Blk w' g t cs := (hb.block g h.lt hg).trans h
end

/-- An owned row stays owned where a block of another element type is written. -/
theorem own_setBlk {w : World} {base : Nat} {e : TypeId} {s : Nat} {v : Value} {n : Nat} {xs : List Value} {g : Nat} {t : TypeId} {cs : Array Value} (h : w.ownsRow base e s v n xs) (hb : Blk w g t cs) (hne : e ≠ t) (i : Nat) (u : Value) :
    (w.setCell ⟨g, i, none⟩ u).ownsRow base e s v n xs := by
  refine ⟨h.1, ?_⟩
  rcases h.2 with h2 | ⟨g', cap, cur, hv, hg, hh, r⟩
  · exact .inl h2
  · refine .inr ⟨g', cap, cur, hv, hg, ?_, r⟩
    rw [Below.heap_setCell _ _ _ _ (fun e' => ?_)]
    · exact hh
    · have e2 : g' = g := e'
      subst e2
      unfold Blk at hb
      rw [hb] at hh
      injection hh with hh
      injection hh with _ ht
      exact hne ht.symm
theorem own_alloc {w : World} {base : Nat} {e : TypeId} {s : Nat} {v : Value} {n : Nat} {xs : List Value} (h : w.ownsRow base e s v n xs) (o : Obj) : (w.alloc o).ownsRow base e s v n xs := World.ownsRow.alloc h o

/-- A whole row, just made. -/
theorem Sl.new (w : World) (t : TypeId) (cs : Array Value) (s n c : Nat) (xs : List Value) {g : Nat} (hg : w.heap.size = g) (hn : n ≤ c) (hx : xs.length = n * s) (hc : cs.toList = xs) :
    Sl (w.alloc (.cells cs t)) g (g + 1) s (some ⟨g, 0, none⟩) n c xs :=
  ⟨hx, hn, (fun h => by cases h), fun _ => ⟨g, 0, rfl, Nat.le_refl _, by omega, fun j hj => by
    rw [Nat.zero_add, (Blk.new w t cs hg).rules.1 j, ← hc, Array.getElem?_toList]⟩⟩

/-- A whole row that bears the mark of a string's bytes, just made. -/
theorem Sl.newM (w : World) (t : TypeId) (cs : Array Value) (fr : Nat × Nat) (s n c : Nat) (xs : List Value) {g : Nat} (hg : w.heap.size = g) (hn : n ≤ c) (hx : xs.length = n * s) (hc : cs.toList = xs) :
    Sl (w.alloc (.cells cs t fr)) g (g + 1) s (some ⟨g, 0, none⟩) n c xs :=
  ⟨hx, hn, (fun h => by cases h), fun _ => ⟨g, 0, rfl, Nat.le_refl _, by omega, fun j hj => by
    subst hg
    rw [Nat.zero_add, World.cell?_alloc_mark, ← hc, Array.getElem?_toList]⟩⟩

/-! ### Bytes -/
/-- The cells of bytes. -/
def byteCells (l : List UInt8) : List Value := l.map fun b => .int .u8 (b.toNat : Int)
theorem byteCells_length (l : List UInt8) : (byteCells l).length = l.length := by simp [byteCells]
theorem byteCells_append (l m : List UInt8) : byteCells (l ++ m) = byteCells l ++ byteCells m := by simp [byteCells]
theorem byteCells_take (l : List UInt8) (n : Nat) : (byteCells l).take n = byteCells (l.take n) := by simp [byteCells]
theorem byteCells_drop (l : List UInt8) (n : Nat) : (byteCells l).drop n = byteCells (l.drop n) := by simp [byteCells]
theorem byteCells_one (l : List UInt8) : ∀ u ∈ byteCells l, u.oneCell' = true := by
  intro u hu
  simp only [byteCells, List.mem_map] at hu
  obtain ⟨b, _, rfl⟩ := hu
  rfl
theorem byteCells_at {l : List UInt8} {j : Nat} (h : j < l.length) : (byteCells l)[j]? = some (.int .u8 (l[j].toNat : Int)) := by
  simp [byteCells, List.getElem?_eq_getElem h]

/-- `string(b)` where b reads as the bytes `l`. -/
theorem run_string_of {P : Program} {w : World} {lo hi : Nat} {A : Option Addr} {n c : Nat} {l : List UInt8} {src dst e : TypeId} (hr : Sl w lo hi 1 A n c (byteCells l))
    (hs : P.underlying src = some (.slice e)) (he : P.underlying e = some (.int .u8)) (hd : P.underlying dst = some .string) :
    (convert src dst (.slice A n c)).run P w = .ok (.string ⟨l.toArray⟩) w := by
  have hn : n = l.length := by have := hr.len; rw [byteCells_length] at this; omega
  subst hn
  rcases Nat.eq_zero_or_pos l.length with h0 | h0
  · have hl : l = [] := List.eq_nil_of_length_eq_zero h0
    subst hl
    rcases A with _ | ad
    · rw [run_convert_bytes_string w src dst e none _ c hs he hd]
      simp [Conv.bytesToString, Sem.run_pure]
      rfl
    · exact run_convert_bytes_back w src dst e ad c [] hs he hd (fun j hj => absurd hj (by simp))
  · obtain ⟨b, o, rfl, _, _, hc⟩ := hr.at_ h0
    refine run_convert_bytes_back w src dst e ⟨b, o, none⟩ c l hs he hd (fun j hj => ?_)
    rw [addr_add, hc j (by rw [byteCells_length]; exact hj), byteCells_at hj]

/-! ### Cuts, their address under a name -/
section
variable {P : Program} {t e : TypeId} {i : TypeInfo} {s : Nat}
theorem elem_of (ht : P.underlying t = some (.slice e)) : P.elem t = e := by simp [Program.elem, ht]
theorem size_of (w : World) (hi : P.info? e = some i) (hs : i.size = s) : (sizeOf e).run P w = .ok s w := by simp [sizeOf, typeInfo, hi, hs]
/-- `x[k : k+m : d]` -/
theorem cut_lhm (ht : P.underlying t = some (.slice e)) (hi : P.info? e = some i) (hs : i.size = s) {w : World} {lo up : Nat} {A : Option Addr} {n c : Nat} {xs : List Value} (h : Sl w lo up s A n c xs)
    (k m d : Nat) (L H M : Int) (hL : L = k) (hH : H = k + m) (hM : M = d) (hk : k + m ≤ n) (hd : k + m ≤ d) (hc : d ≤ c) :
    ∃ A', (∀ w', (Instr.slice t (.slice A n c) (some (.int .i64 L)) (some (.int .i64 H)) (some (.int .i64 M))).run P w' = .ok (.slice A' m (d - k)) w') ∧ Sl w lo up s A' m (d - k) ((xs.drop (k * s)).take (m * s)) := by
  refine ⟨_, fun w' => ?_, h.cut hk hd hc⟩
  have ht' : P.underlying t = some (.slice (P.elem t)) := by rw [elem_of ht]; exact ht
  rw [run_slice_lhm (P := P) w' t A n c ht' .i64 .i64 .i64 L H M (by omega) (by omega) (by omega) (by omega), elem_of ht, size_of w' hi hs]
  simp only [Result.andThen_ok, sliced]
  rw [show L.toNat = k from by omega, show H.toNat = k + m from by omega, show M.toNat = d from by omega, show k + m - k = m from by omega]
/-- `x[k : k+m]` -/
theorem cut_lh (ht : P.underlying t = some (.slice e)) (hi : P.info? e = some i) (hs : i.size = s) {w : World} {lo up : Nat} {A : Option Addr} {n c : Nat} {xs : List Value} (h : Sl w lo up s A n c xs)
    (k m : Nat) (L H : Int) (hL : L = k) (hH : H = k + m) (hk : k + m ≤ n) :
    ∃ A', (∀ w', (Instr.slice t (.slice A n c) (some (.int .i64 L)) (some (.int .i64 H)) none).run P w' = .ok (.slice A' m (c - k)) w') ∧ Sl w lo up s A' m (c - k) ((xs.drop (k * s)).take (m * s)) := by
  refine ⟨_, fun w' => ?_, h.cut hk (Nat.le_trans hk h.le) (Nat.le_refl _)⟩
  have hle := h.le
  have ht' : P.underlying t = some (.slice (P.elem t)) := by rw [elem_of ht]; exact ht
  rw [run_slice_lh (P := P) w' t A n c ht' .i64 .i64 L H (by omega) (by omega) (by omega), elem_of ht, size_of w' hi hs]
  simp only [Result.andThen_ok, sliced]
  rw [show L.toNat = k from by omega, show H.toNat = k + m from by omega, show k + m - k = m from by omega]
/-- `x[k :]` -/
theorem cut_l (ht : P.underlying t = some (.slice e)) (hi : P.info? e = some i) (hs : i.size = s) {w : World} {lo up : Nat} {A : Option Addr} {n c : Nat} {xs : List Value} (h : Sl w lo up s A n c xs)
    (k m : Nat) (L : Int) (hL : L = k) (hk : k + m = n) :
    ∃ A', (∀ w', (Instr.slice t (.slice A n c) (some (.int .i64 L)) none none).run P w' = .ok (.slice A' m (c - k)) w') ∧ Sl w lo up s A' m (c - k) (xs.drop (k * s)) := by
  have hcut := h.cut (k := k) (m := m) (d := c) (by omega) (by have := h.le; omega) (Nat.le_refl _)
  rw [List.take_of_length_le (by rw [List.length_drop, h.len, ← hk, Nat.add_mul]; omega)] at hcut
  refine ⟨_, fun w' => ?_, hcut⟩
  have hle := h.le
  have ht' : P.underlying t = some (.slice (P.elem t)) := by rw [elem_of ht]; exact ht
  rw [run_slice_l (P := P) w' t A n c ht' .i64 L (by omega) (by omega), elem_of ht, size_of w' hi hs]
  simp only [Result.andThen_ok, sliced]
  rw [show L.toNat = k from by omega, show n - k = m from by omega]
/-- `x[: m]` -/
theorem cut_h (ht : P.underlying t = some (.slice e)) (hi : P.info? e = some i) (hs : i.size = s) {w : World} {lo up : Nat} {A : Option Addr} {n c : Nat} {xs : List Value} (h : Sl w lo up s A n c xs)
    (m : Nat) (H : Int) (hH : H = m) (hk : m ≤ n) :
    ∃ A', (∀ w', (Instr.slice t (.slice A n c) none (some (.int .i64 H)) none).run P w' = .ok (.slice A' m c) w') ∧ Sl w lo up s A' m c (xs.take (m * s)) := by
  have hle := h.le
  have hcut := h.cut (k := 0) (m := m) (d := c) (by omega) (by omega) (Nat.le_refl _)
  simp only [Nat.zero_mul, List.drop_zero, Nat.sub_zero] at hcut
  refine ⟨_, fun w' => ?_, hcut⟩
  have ht' : P.underlying t = some (.slice (P.elem t)) := by rw [elem_of ht]; exact ht
  rw [run_slice_h (P := P) w' t A n c ht' .i64 H (by omega) (by omega), elem_of ht, size_of w' hi hs]
  simp only [Result.andThen_ok, sliced]
  rw [show H.toNat = m from by omega]
  simp
end

/-! ### append onto an owned row, the source nil, empty or not -/
section
variable {P : Program} (w : World)

theorem run_append_sl (base : Nat) (t ty e : TypeId) (i : TypeInfo) (z : Value) (size bytes : Nat) (ht : P.underlying t = some (.slice e)) (hi : P.info? e = some i) (hz : i.zero = some z)
    (hsize : i.size = size) (hby : i.bytes = bytes) (hzs : z.cells.size = size) (hsz : 0 < size)
    (v : Value) (n : Nat) (xs : List Value) (hown : w.ownsRow base e size v n xs)
    (lo up : Nat) (A : Option Addr) (m c : Nat) (news : List Value) (hr : Sl w lo up size A m c news) (h1 : ∀ u ∈ news, u.oneCell' = true)
    (k : Nat) (hk : n + m = k) (ys : List Value) (hys : xs ++ news = ys)
    (h63 : k ≤ maxLen) (hbytes : k * bytes ≤ 140737488355328) (hbase : base ≤ w.heap.size) :
    ∃ A' c' w', (Builtin.append_ #[t, t] ty #[v, .slice A m c]).run P w = .ok (.slice A' k c') w' ∧ w'.ownsRow base e size (.slice A' k c') k ys ∧ w.grownBy w' v.ownBlock := by
  subst hk
  subst hys
  have key : ∃ v' w', (Builtin.append_ #[t, t] ty #[v, .slice A m c]).run P w = .ok v' w' ∧ w'.ownsRow base e size v' (n + m) (xs ++ news) ∧ w.grownBy w' v.ownBlock := by
    rcases A with _ | ad
    · have hm : m = 0 := by
        rcases Nat.eq_zero_or_pos m with h0 | h0
        · exact h0
        · obtain ⟨_, _, h, _⟩ := hr.at_ h0
          cases h
      subst hm
      have hn : news = [] := List.eq_nil_of_length_eq_zero (by simpa using hr.len)
      subst hn
      obtain rfl := hr.nil rfl
      exact ⟨v, w, run_append_owned_none (P := P) w base t ty e i size ht hi v n xs hown, by simpa using hown, ⟨rfl, rfl, rfl, Nat.le_refl _, fun _ _ _ => rfl⟩⟩
    · have hcells : ∀ j u, news[j]? = some u → w.cell? (ad.add j) = some u := by
        intro j u hu
        have hj : j < news.length := (List.getElem?_eq_some_iff.1 hu).1
        have hm : 0 < m := by
          rcases Nat.eq_zero_or_pos m with h0 | h0
          · have := hr.len; rw [h0] at this; omega
          · exact h0
        obtain ⟨b, o, e, _, _, hc⟩ := hr.at_ hm
        injection e with e
        subst e
        rw [addr_add, hc j hj, hu]
      obtain ⟨v', w', hrun, h2, h3, _⟩ := run_append_own (P := P) w base t ty e i z size bytes ht hi hz hsize hby hzs hsz v n xs hown ad m c news hr.len hcells h1 h63 hbytes hbase
      exact ⟨v', w', hrun, h2, h3⟩
  obtain ⟨v', w', hrun, h2, h3⟩ := key
  rcases h2.2 with ⟨rfl, h0⟩ | ⟨g, cap, cur, rfl, _⟩
  · have hn : n + m = 0 := h0
    refine ⟨none, 0, w', by rw [hn]; exact hrun, by rw [hn] at h2 ⊢; exact h2, h3⟩
  · exact ⟨_, _, w', hrun, h2, h3⟩

theorem wp_append_sl {o : Oper} {a : Act} {K : Act → World → Prop} {Q : Exit → Act → World → Prop} (s x : Operand) (t : TypeId)
    (ho : o.op = .call { callee := .builtin .append, args := #[s, x], argTypes := #[t, t] })
    (base : Nat) (e : TypeId) (i : TypeInfo) (z : Value) (size bytes : Nat) (ht : P.underlying t = some (.slice e)) (hi : P.info? e = some i) (hz : i.zero = some z)
    (hsize : i.size = size) (hby : i.bytes = bytes) (hzs : z.cells.size = size) (hsz : 0 < size)
    (v : Value) (n : Nat) (xs : List Value) (hs : a.eval s = v) (hown : w.ownsRow base e size v n xs)
    (lo up : Nat) (A : Option Addr) (m c : Nat) (news : List Value) (hx : a.eval x = .slice A m c) (hr : Sl w lo up size A m c news) (h1 : ∀ u ∈ news, u.oneCell' = true)
    (k : Nat) (hk : n + m = k) (ys : List Value) (hys : xs ++ news = ys)
    (h63 : k ≤ maxLen) (hbytes : k * bytes ≤ 140737488355328) (hbase : base ≤ w.heap.size)
    (h : ∀ A' c' w', w'.ownsRow base e size (.slice A' k c') k ys → w.grownBy w' v.ownBlock → K (a.put o.dst (.slice A' k c')) w') : o.wp P a w K Q := by
  obtain ⟨A', c', w', hrun, h2, h3⟩ := run_append_sl (P := P) w base t o.type e i z size bytes ht hi hz hsize hby hzs hsz v n xs hown lo up A m c news hr h1 k hk ys hys h63 hbytes hbase
  unfold Oper.wp execOp
  simp only [ho, resolve, invoke, builtin, Sem.run_bind, Sem.run_pure, Result.andThen_ok, List.map_toArray, List.map_cons, List.map_nil, hs, hx, hrun]
  exact h A' c' w' h2 h3

theorem wpList_append_sl {ops : Array Oper} {rest : List Oper} {o : Oper} {a : Act} {Q : Exit → Act → World → Prop} (hgd : o.guard = none) (s x : Operand) (t : TypeId)
    (ho : o.op = .call { callee := .builtin .append, args := #[s, x], argTypes := #[t, t] })
    (base : Nat) (e : TypeId) (i : TypeInfo) (z : Value) (size bytes : Nat) (ht : P.underlying t = some (.slice e)) (hi : P.info? e = some i) (hz : i.zero = some z)
    (hsize : i.size = size) (hby : i.bytes = bytes) (hzs : z.cells.size = size) (hsz : 0 < size)
    (v : Value) (n : Nat) (xs : List Value) (hs : a.eval s = v) (hown : w.ownsRow base e size v n xs)
    (lo up : Nat) (A : Option Addr) (m c : Nat) (news : List Value) (hx : a.eval x = .slice A m c) (hr : Sl w lo up size A m c news) (h1 : ∀ u ∈ news, u.oneCell' = true)
    (k : Nat) (hk : n + m = k) (ys : List Value) (hys : xs ++ news = ys)
    (h63 : k ≤ maxLen) (hbytes : k * bytes ≤ 140737488355328) (hbase : base ≤ w.heap.size)
    (h : ∀ A' c' w', w'.ownsRow base e size (.slice A' k c') k ys → w.grownBy w' v.ownBlock → wpList P ops Q rest (a.put o.dst (.slice A' k c')) w') : wpList P ops Q (o :: rest) a w :=
  wpList_plain hgd fun _ hK => wp_append_sl w s x t ho base e i z size bytes ht hi hz hsize hby hzs hsz v n xs hs hown lo up A m c news hx hr h1 k hk ys hys h63 hbytes hbase fun A' c' w' h2 h3 => hK _ _ (h A' c' w' h2 h3)

theorem step_append_sl {ops : Array Oper} {o : Oper} {a : Act} {K : Act → World → Prop} {Q : Exit → Act → World → Prop} {E : Prop} (hgd : o.guard = none) (s x : Operand) (t : TypeId)
    (ho : o.op = .call { callee := .builtin .append, args := #[s, x], argTypes := #[t, t] })
    (base : Nat) (e : TypeId) (i : TypeInfo) (z : Value) (size bytes : Nat) (ht : P.underlying t = some (.slice e)) (hi : P.info? e = some i) (hz : i.zero = some z)
    (hsize : i.size = size) (hby : i.bytes = bytes) (hzs : z.cells.size = size) (hsz : 0 < size)
    (v : Value) (n : Nat) (xs : List Value) (hs : a.eval s = v) (hown : w.ownsRow base e size v n xs)
    (lo up : Nat) (A : Option Addr) (m c : Nat) (news : List Value) (hx : a.eval x = .slice A m c) (hr : Sl w lo up size A m c news) (h1 : ∀ u ∈ news, u.oneCell' = true)
    (k : Nat) (hk : n + m = k) (ys : List Value) (hys : xs ++ news = ys)
    (h63 : k ≤ maxLen) (hbytes : k * bytes ≤ 140737488355328) (hbase : base ≤ w.heap.size)
    (h : ∀ A' c' w', w'.ownsRow base e size (.slice A' k c') k ys → w.grownBy w' v.ownBlock → K (a.put o.dst (.slice A' k c')) w') :
    if Region.wanted o (yielded ops a.tmps) = true then Oper.wp P o a w K Q else E := by
  have hw : Region.wanted o (yielded ops a.tmps) = true := by simp [Region.wanted, hgd]
  rw [if_pos hw]
  exact wp_append_sl w s x t ho base e i z size bytes ht hi hz hsize hby hzs hsz v n xs hs hown lo up A m c news hx hr h1 k hk ys hys h63 hbytes hbase h
end
end Go.Proofs.Ytfeeincglijmjaa
