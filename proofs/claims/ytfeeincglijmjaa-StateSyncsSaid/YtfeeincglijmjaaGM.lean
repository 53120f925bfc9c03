/- Texts of this seat, one behind the other. -/
import Derived.Test.YtfeeincglijmjaaGC
import Derived.Test.YtfeeincglijmjaaZB1
import Derived.Laws.Bits64b
import Derived.IntWalk
namespace Go.Proofs.Ytfeeincglijmjaa
open Go.RowKit
set_option linter.unusedVariables false
set_option linter.unusedSimpArgs false
attribute [local go_sem ↓] Go.wp_at_zero Go.wp_at_succ

theorem mul64_one (n : Nat) (hn : n ≤ 1000000) (w : World) : Calls Try.prog 107 #[.int .u64 1, .int .u64 n] w fun e w' => e = .returned (.tuple #[.int .u64 0, .int .u64 n]) ∧ w' = w := by
  have m1 : bits .and .u64 (1 : Int) 4294967295 = 1 := by decide
  have m0 : bits .and .u64 (0 : Int) 4294967295 = 0 := by decide
  have m2 : bits .and .u64 (n : Int) 4294967295 = (n : Int) := by
    have h := bits_and_u64_nat n 4294967295 (by omega) (by omega)
    have e : n &&& 4294967295 = n % 4294967296 := Nat.and_two_pow_sub_one_eq_mod n 32
    rw [e, Nat.mod_eq_of_lt (by omega)] at h
    exact h
  have d1 : (n : Int) / 4294967296 = 0 := by omega
  have n0 : (0 : Int) ≤ n := by omega
  have n1 : (n : Int) ≤ 1000000 := by omega
  go_enter Try.func107, Try.ntmps107
  go_wp2
  go_ret2
  exact ⟨rfl, rfl⟩
theorem mul_one (n : Nat) (hn : n ≤ 1000000) (w : World) : Calls Try.prog 101 #[.int .u64 1, .int .u64 n] w fun e w' => e = .returned (.tuple #[.int .u64 0, .int .u64 n]) ∧ w' = w := by
  have H := Lib.hid (fun w => mul64_one n hn w)
  go_enter Try.func101, Try.ntmps101
  go_wp2_with fail
  refine (H.out _).mono ?_
  rintro e w1 ⟨rfl, rfl⟩
  go_wp2
  go_ret2
  exact ⟨rfl, rfl⟩
theorem empty_any (w : World) : Calls Try.prog 77 #[] w fun e w' => e = .returned (.agg #[.int .i64 32, .int .i64 0]) ∧ Below w.heap.size w w' := by
  go_enter Try.func77, Try.ntmps77
  go_wp2
  refine bodyPost_ret (v := .agg #[.int .i64 32, .int .i64 0]) (by simp [results, Try.results77, go_sem]) rfl ⟨rfl, ?_⟩
  exact (((Below.refl _ _).alloc (Nat.le_refl _) _))

/-- Empty places. -/
def blanks (n : Nat) : List (Int × Int) := List.replicate n (32, 0)
theorem blanks_length (n : Nat) : (blanks n).length = n := by simp [blanks]
/-- What places of the callee's own are handed back as. -/
def RetC (w : World) (l : List (Int × Int)) (e : Ending) (w' : World) : Prop :=
  ∃ A c, e = .returned (.slice A l.length c) ∧ w'.ownsRow w.heap.size 64 2 (.slice A l.length c) l.length (cCells l) ∧ Below w.heap.size w w'

/-- Some of a row of places are blank; what copying them behind leaves. -/
theorem rep_step {W : World} {g n m k : Nat} {cur : Array Value} (hg : W.heap[g]? = some (.cells cur 64 (0, 0))) (hs : cur.size = n * 2) (ht : cur.toList.take (m * 2) = cCells (blanks m)) (hm : m ≤ n) (hk : k = Nat.min m (n - m)) :
    ∃ (W' : World) (cur' : Array Value), (∀ ty dc sc, (Builtin.copy_ #[32, 32] ty #[.slice (some ⟨g, m * 2, none⟩) (n - m) dc, .slice (some ⟨g, 0, none⟩) m sc]).run Try.prog W = .ok (goInt ((k : Nat) : Int)) W') ∧
      W'.heap[g]? = some (.cells cur' 64 (0, 0)) ∧ cur'.size = n * 2 ∧ cur'.toList.take ((m + k) * 2) = cCells (blanks (m + k)) ∧ W.grownBy W' (some g) := by
  obtain ⟨i0, hi0, hz0, hz1, hz2⟩ := info_parts info64
  have hsz : (Try.prog.info? 64).map (·.size) = some 2 := by rw [hi0]; simp [hz1]
  have hkm : k ≤ m ∧ k ≤ n - m := by rw [hk]; simp only [Nat.min_def]; split <;> omega
  have hcl : (cCells (blanks k)).length = k * 2 := by rw [cCells_length, blanks_length]
  obtain ⟨cur', h1, e1⟩ := setCells_row g (cCells (blanks k)) (m * 2) W cur hg (by omega)
  refine ⟨W.setCells g (m * 2) (cCells (blanks k)), cur', fun ty dc sc => ?_, h1, ?_, ?_, grownBy_setCells _ _ _ _⟩
  · rw [run_copy_sized W 32 32 ty 64 2 g (m * 2) (n - m) dc ⟨g, 0, none⟩ m sc (cCells (blanks k)) Try.underlying32 hsz (by rw [hcl, hk])
      (fun j v hj => by
        rw [addr_add, Nat.zero_add, cell_of_row W g _ cur 64 (0, 0) hg, ← Array.getElem?_toList]
        have hj' : j < k * 2 := by have := (List.getElem?_eq_some_iff.1 hj).1; rwa [hcl] at this
        rw [show blanks k = (blanks m).take k from by simp [blanks, Nat.min_eq_left hkm.1], ← cCells_take, ← ht, List.take_take, List.getElem?_take_of_lt (by omega)] at hj
        exact hj)
      (fun j hj => (row_cell hg _ (by omega)).1) (fun j hj => (row_cell hg _ (by omega)).2) (cCells_one _), ← hk]
  · rw [← Array.length_toList, e1, List.length_append, List.length_append, List.length_take, List.length_drop, Array.length_toList]
    omega
  · have e2 : blanks (m + k) = blanks m ++ blanks k := by simp [blanks, List.replicate_append_replicate]
    rw [e1, ht, e2, cCells_append]
    exact List.take_left' (by rw [List.length_append, cCells_length, hcl, blanks_length]; omega)

set_option maxHeartbeats 8000000 in
set_option maxRecDepth 100000 in
theorem repeat_any {lo up : Nat} {A : Option Addr} {c : Nat} {n : Nat} {w : World} (hr : Sl w lo up 2 A 1 c (cCells [(32, 0)])) (hup : up ≤ w.heap.size) (hn : n ≤ 4096) :
    Calls Try.prog 76 #[.slice A 1 c, .int .i64 n] w (RetC w (blanks n)) := by
  obtain ⟨i0, hi0, hz0, hz1, hz2⟩ := info_parts info64
  have HM := Lib.hid (fun w => mul_one n (by omega) w)
  have n0 : (0 : Int) ≤ n := by omega
  have n1 : (n : Int) ≤ 4096 := by omega
  have hmk := run_make (P := Try.prog) w 32 64 i0 _ Try.underlying32 hi0 hz0 .i64 .i64 n n (by omega) (by omega) (by rw [hz2]; omega) (by omega)
  simp only [Int.toNat_natCast] at hmk
  obtain ⟨cur0, hcur0⟩ : ∃ c, c = madeCells (Value.agg #[.int .i64 0, .int .i64 0]).cells (n * i0.size) := ⟨_, rfl⟩
  have hs0 : cur0.size = n * 2 := by rw [hcur0, size_madeCells, hz1]
  rw [← hcur0] at hmk
  clear hcur0
  have hg0 : (w.alloc (.cells cur0 64)).heap[w.heap.size]? = some (.cells cur0 64 (0, 0)) := heap_alloc_new w _
  have hsz : (Try.prog.info? 64).map (·.size) = some 2 := by rw [hi0]; simp [hz1]
  have hk1 : Nat.min 1 n ≤ 1 ∧ Nat.min 1 n ≤ n ∧ (1 ≤ n → Nat.min 1 n = 1) := by simp only [Nat.min_def]; split <;> omega
  obtain ⟨k, hk⟩ : ∃ k, k = Nat.min 1 n := ⟨_, rfl⟩
  rw [← hk] at hk1
  obtain ⟨cur1, h1, e1⟩ := setCells_row w.heap.size (cCells (blanks k)) 0 (w.alloc (.cells cur0 64)) cur0 hg0 (by rw [cCells_length, blanks_length]; omega)
  have hr2 := hr.alloc hup (.cells cur0 64)
  have hcp : ∀ ty dc, (Builtin.copy_ #[32, 32] ty #[.slice (some ⟨w.heap.size, 0, none⟩) n dc, .slice A 1 c]).run Try.prog (w.alloc (.cells cur0 64)) = .ok (goInt ((k : Nat) : Int)) ((w.alloc (.cells cur0 64)).setCells w.heap.size 0 (cCells (blanks k))) := fun ty dc => by
    obtain ⟨b, o, rfl, hlb, hub, hc⟩ := hr2.at_ (by omega)
    rw [run_copy_sized (w.alloc (.cells cur0 64)) 32 32 ty 64 2 w.heap.size 0 n dc ⟨b, o, none⟩ 1 c (cCells (blanks k)) Try.underlying32 hsz (by rw [cCells_length, blanks_length, hk])
      (fun j v hj => by
        rw [addr_add]
        have hj' : j < k * 2 := by have := (List.getElem?_eq_some_iff.1 hj).1; rwa [cCells_length, blanks_length] at this
        have hk2 : k = 1 := by omega
        rw [hk2] at hj
        rw [hc j (by rw [cCells_length]; simp; omega)]
        exact hj)
      (fun j hj => (row_cell hg0 _ (by rw [cCells_length, blanks_length] at hj; omega)).1) (fun j hj => (row_cell hg0 _ (by rw [cCells_length, blanks_length] at hj; omega)).2) (cCells_one _), ← hk]
  obtain ⟨W1, hW1⟩ : ∃ W1, W1 = (w.alloc (.cells cur0 64)).setCells w.heap.size 0 (cCells (blanks k)) := ⟨_, rfl⟩
  have G1 := grownBy_setCells w.heap.size (cCells (blanks k)) 0 (w.alloc (.cells cur0 64))
  rw [← hW1] at h1 G1 hcp
  have hs1 : cur1.size = n * 2 := by
    rw [← Array.length_toList, e1, List.length_append, List.length_append, List.length_take, List.length_drop, Array.length_toList, cCells_length, blanks_length]
    omega
  have ht1 : cur1.toList.take (k * 2) = cCells (blanks k) := by
    rw [e1]
    simp only [List.take_zero, List.nil_append]
    exact List.take_left' (by rw [cCells_length, blanks_length])
  have b1 : Below w.heap.size w W1 := ((Below.refl w.heap.size w).alloc (Nat.le_refl _) (.cells cur0 64)).grown (row := some w.heap.size) G1 (by simp) (fun j hj => by cases hj; exact Nat.le_refl _)
  have z1 : w.heap.size < W1.heap.size := by have := (Array.getElem?_eq_some_iff.1 h1).1; omega
  have R0 : Hid (W1.heap[w.heap.size]? = some (.cells cur1 64 (0, 0)) ∧ cur1.size = n * 2 ∧ cur1.toList.take (k * 2) = cCells (blanks k)) := Lib.hid ⟨h1, hs1, ht1⟩
  have HMK := Lib.hid hmk
  clear hr hr2 hW1 h1 e1 hs1 ht1 G1 hg0 hs0 hsz hz0 hz2 hmk
  have HK1 := Lib.hid hk1
  have hk2 : (k : Int) ≤ n := by omega
  clear hk hk1
  go_enter Try.func76, Try.ntmps76
  go_wp2_with fail
  refine (HM.out _).mono ?_
  rintro e w1 ⟨rfl, rfl⟩
  have hmk := HMK.out
  go_wp2_with (at_builtin; refine wpList_copy_eq _ rfl _ _ 32 32 rfl _ _ rfl rfl (hcp _ _) ?_)
  have h0 : n = 0 ∨ 1 ≤ k := by
    rcases Nat.eq_zero_or_pos n with h | h
    · exact .inl h
    · exact .inr (by have := HK1.out.2.2 h; omega)
  go_loopg [8] (n - k) (fun gh s8 wr => ∃ (m : Nat) (cur : Array Value), gh = n - m ∧ s8 = .int .i64 m ∧ m ≤ n ∧ (n = 0 ∨ 1 ≤ m) ∧ Below w1.heap.size w1 wr ∧ w1.heap.size < wr.heap.size ∧ Hid (wr.heap[w1.heap.size]? = some (.cells cur 64 (0, 0)) ∧ cur.size = n * 2 ∧ cur.toList.take (m * 2) = cCells (blanks m)))
  case atStart => exact ⟨k, cur1, rfl, rfl, by omega, h0, b1, z1, R0⟩
  case round =>
    clear b1 z1 R0 hcp hmk h0
    obtain ⟨m, cur, hg, rfl, hm, h0, bb, zz, R⟩ := hrel
    have HG := Lib.hid hg
    clear hg
    by_cases h : m < n
    · obtain ⟨k', hk'⟩ : ∃ k', k' = Nat.min m (n - m) := ⟨_, rfl⟩
      obtain ⟨W', cur', hrun, hg', hs', ht', G'⟩ := rep_step (W := wr.drew) R.out.1 R.out.2.1 R.out.2.2 hm hk'
      have hkb : 1 ≤ k' ∧ k' ≤ n - m := by rw [hk']; simp only [Nat.min_def]; split <;> omega
      have R' : Hid (W'.heap[w1.heap.size]? = some (.cells cur' 64 (0, 0)) ∧ cur'.size = n * 2 ∧ cur'.toList.take ((m + k') * 2) = cCells (blanks (m + k'))) := Lib.hid ⟨hg', hs', ht'⟩
      have b2 : Below w1.heap.size w1 W' := bb.drew.grown G' (by show _ ≤ wr.heap.size; omega) (fun j hj => by cases hj; exact Nat.le_refl _)
      have z2 : w1.heap.size < W'.heap.size := Nat.lt_of_lt_of_le zz G'.size
      have hnm : ¬ (n = m) := by omega
      have hmi : (m : Int) ≤ n := by omega
      have hm0 : (0 : Int) ≤ m := by omega
      have a1 := addr_add w1.heap.size 0 (m * 2)
      have hsz := fun W => size_of (P := Try.prog) (e := 64) W hi0 hz1
      have q1 : IntKind.i64.wrap ((m : Int) + (k' : Int)) = (m : Int) + (k' : Int) := IntWalk.i64_in _ (by omega)
      clear hk' hg' hs' ht' G'
      have hke : goInt ((k' : Nat) : Int) = .int .i64 k' := rfl
      rw [hke] at hrun
      clear hke
      go_upto_region 9 with fail
      go_region_law (refine step_copy_eq rfl _ _ 32 32 rfl _ _ (by simp [Act.eval, Act.put]) (by simp [Act.eval, Act.put]) (hrun _ _ _) ?_)
      go_wp2_with fail
      go_roundg (n - (m + k'))
      case measure => have := HG.out; omega
      case rel => exact ⟨m + k', cur', rfl, by go_num, by omega, by omega, b2, z2, R'⟩
    · obtain rfl : m = n := by omega
      go_wp2_with fail
      go_ret
      refine ⟨some ⟨w1.heap.size, 0, none⟩, m, by rw [blanks_length]; rfl, ?_, bb⟩
      rw [blanks_length]
      exact own_mk (Nat.le_refl _) R.out.1 (Nat.le_refl _) (by unfold maxLen; omega) R.out.2.1 R.out.2.2

/-- A block, written whole. -/
theorem Blk.all {w : World} {g : Nat} {t : TypeId} {cs : Array Value} (h : Blk w g t cs) (vs : List Value) (hl : vs.length = cs.size) : Blk (w.setCells g 0 vs) g t vs.toArray := by
  obtain ⟨cur, h1, h2⟩ := setCells_row g vs 0 w cs h (by omega)
  have e : cur = vs.toArray := by
    apply Array.toList_inj.1
    rw [h2, List.drop_of_length_le (by rw [Array.length_toList]; omega)]
    simp
  rw [e] at h1
  exact h1
theorem below_sets {w W : World} {B g : Nat} (h : Below B w W) (hB : B ≤ g) (hw : B ≤ W.heap.size) (vs : List Value) : Below B w (W.setCells g 0 vs) := h.grown (grownBy_setCells g vs 0 W) hw (fun j hj => by cases hj; exact hB)
theorem ScrAt.grown {w w' : World} {lo up : Nat} {s : Scr} {C : Option Addr} {cc : Nat} {M : Option Addr} {cm : Nat} {row : Option Nat} (h : ScrAt w lo up s C cc M cm) (hg : w.grownBy w' row) (hB : up ≤ w.heap.size) (hr : ∀ g, row = some g → g < lo ∨ up ≤ g) : ScrAt w' lo up s C cc M cm := ⟨h.c.grown hg hB hr, h.m.grown hg hB hr⟩

/-- A screen that is empty. -/
def newScr (w h : Int) : Scr := ⟨w, h, 0, 0, 0, 0, h - 1, false, true, false, false, 0, 0, 0, blanks (w * h).toNat, []⟩
/-- What a screen of the callee's own, and an error, are handed back as. -/
def RetSE (w : World) (s : Scr) (n : Int) (e : Ending) (w' : World) : Prop :=
  ∃ C cc M cm, e = .returned (.tuple #[.agg (s.v C cc M cm), .int .i64 n]) ∧ ScrAt w' w.heap.size w'.heap.size s C cc M cm ∧ Below w.heap.size w w'
/-- No screen. -/
def noScr : Scr := ⟨0, 0, 0, 0, 0, 0, 0, false, false, false, false, 0, 0, 0, [], []⟩
theorem noScr_at (w : World) (lo up : Nat) : ScrAt w lo up noScr none 0 none 0 := ⟨Sl.empty _ _ _ _, Sl.empty _ _ _ _⟩

set_option maxHeartbeats 4000000 in
set_option maxRecDepth 100000 in
theorem new_no {W H : Int} {w : World} (h : (inB W 1 64 && inB H 1 64) = false) :
    Calls Try.prog 39 #[.int .i64 W, .int .i64 H] w (RetSE w noScr 170) := by
  have HW := Lib.hid (fun w' => within_any W 1 64 w')
  have HH := Lib.hid (fun w' => within_any H 1 64 w')
  cases h1 : inB W 1 64
  · rw [h1] at HW
    clear h h1
    go_enter Try.func39, Try.ntmps39
    go_wp2_with fail
    refine (HW.out _).mono ?_
    rintro e w1 ⟨rfl, rfl⟩
    go_wp2
    exact bodyPost_ret (v := .tuple #[.agg (noScr.v none 0 none 0), .int .i64 170]) (by simp [results, Try.results39, go_sem, noScr, Scr.v]) rfl ⟨none, 0, none, 0, rfl, noScr_at _ _ _, (Below.refl _ _).alloc (Nat.le_refl _) _⟩
  · rw [h1, Bool.true_and] at h
    rw [h1] at HW
    rw [h] at HH
    clear h h1
    go_enter Try.func39, Try.ntmps39
    go_wp2_with fail
    refine (HW.out _).mono ?_
    rintro e w1 ⟨rfl, rfl⟩
    go_wp2_with fail
    refine (HH.out _).mono ?_
    rintro e w1 ⟨rfl, rfl⟩
    go_wp2
    exact bodyPost_ret (v := .tuple #[.agg (noScr.v none 0 none 0), .int .i64 170]) (by simp [results, Try.results39, go_sem, noScr, Scr.v]) rfl ⟨none, 0, none, 0, rfl, noScr_at _ _ _, (Below.refl _ _).alloc (Nat.le_refl _) _⟩
set_option maxHeartbeats 4000000 in
set_option maxRecDepth 100000 in
theorem new_yes {W H : Int} {w : World} (h : (inB W 1 64 && inB H 1 64) = true) :
    Calls Try.prog 39 #[.int .i64 W, .int .i64 H] w (RetSE w (newScr W H) 0) := by
  have HW := Lib.hid (fun w' => within_any W 1 64 w')
  have HH := Lib.hid (fun w' => within_any H 1 64 w')
  simp only [Bool.and_eq_true] at h
  obtain ⟨h1, h2⟩ := h
  rw [h1] at HW
  rw [h2] at HH
  have har := area ⟨inB_true.1 h1, inB_true.1 h2⟩
  have hb2 := inB_true.1 h2
  obtain ⟨n, hn⟩ : ∃ n : Nat, W * H = n := ⟨(W * H).toNat, by omega⟩
  have hnn : n ≤ 4096 := by omega
  have hw : IntKind.i64.wrap (W * H) = n := by rw [hn]; rw [IntKind.wrap_i64]; omega
  unfold newScr
  rw [hn, Int.toNat_natCast]
  have HR := Lib.hid (fun W lo up A c h1 h2 => repeat_any (n := n) (w := W) (lo := lo) (up := up) (A := A) (c := c) h1 h2 hnn)
  clear har hn h1 h2
  go_enter Try.func39, Try.ntmps39
  go_wp2_with fail
  refine (HW.out _).mono ?_
  rintro e w1 ⟨rfl, rfl⟩
  go_wp2_with fail
  refine (HH.out _).mono ?_
  rintro e w1 ⟨rfl, rfl⟩
  go_wp2_with fail
  refine (empty_any _).mono ?_
  rintro e w2 ⟨rfl, b2⟩
  have bz := (Blk.new w 35 #[.int .i64 0, .int .i64 0, .slice none 0 0, .int .i64 0, .int .i64 0, .int .i64 0, .int .i64 0, .int .i64 0, .bool false, .bool false, .bool false, .bool false, .int .i64 0, .int .i64 0, .int .i64 0, .slice none 0 0] rfl).later b2
  have z2 : w.heap.size + 1 ≤ w2.heap.size := by have := b2.size; rwa [World.size_alloc] at this
  have bb := ((Below.refl w.heap.size w).alloc (Nat.le_refl _) _).trans (b2.mono (by simp))
  have s1 := Sl.new w2 64 #[.int .i64 32, .int .i64 0] 2 1 1 (cCells [(32, 0)]) rfl (Nat.le_refl _) rfl rfl
  clear b2
  go_wp2_with fail
  refine (HR.out _ _ _ _ _ s1 (by simp)).mono ?_
  rintro e w3 ⟨A, c, rfl, hown, b3⟩
  have bz3 := (bz.alloc _).later b3
  have z3 : w2.heap.size + 1 ≤ w3.heap.size := by have := b3.size; rwa [World.size_alloc] at this
  have bb3 := (bb.alloc (by omega) _).trans (b3.mono (by simp; omega))
  have hs := (Sl.of_own hown).more (lo' := w.heap.size + 1) (by simp; omega) (Nat.le_refl _)
  rw [blanks_length] at hs
  clear b3 bz bb s1 hown
  simp only [blanks_length]
  have ⟨kc, ke⟩ := bz3.rules
  go_wp2_with fail
  have B := bz3.all [.int .i64 W, .int .i64 H, .slice A n c, .int .i64 0, .int .i64 0, .int .i64 0, .int .i64 0, .int .i64 (H - 1), .bool false, .bool true, .bool false, .bool false, .int .i64 0, .int .i64 0, .int .i64 0, .slice none 0 0] rfl
  have bb4 := below_sets bb3 (Nat.le_refl _) (by omega) [.int .i64 W, .int .i64 H, .slice A n c, .int .i64 0, .int .i64 0, .int .i64 0, .int .i64 0, .int .i64 (H - 1), .bool false, .bool true, .bool false, .bool false, .int .i64 0, .int .i64 0, .int .i64 0, .slice none 0 0]
  have hs4 := hs.grown (row := some w.heap.size) (grownBy_setCells w.heap.size [.int .i64 W, .int .i64 H, .slice A n c, .int .i64 0, .int .i64 0, .int .i64 0, .int .i64 0, .int .i64 (H - 1), .bool false, .bool true, .bool false, .bool false, .int .i64 0, .int .i64 0, .int .i64 0, .slice none 0 0] 0 w3) (Nat.le_refl _) (fun g e => by cases e; omega)
  have ⟨kd, kf⟩ := B.rules
  clear kc ke
  generalize hW4 : w3.setCells w.heap.size 0 [.int .i64 W, .int .i64 H, .slice A n c, .int .i64 0, .int .i64 0, .int .i64 0, .int .i64 0, .int .i64 (H - 1), .bool false, .bool true, .bool false, .bool false, .int .i64 0, .int .i64 0, .int .i64 0, .slice none 0 0] = W4 at *
  simp only [World.setCells, Nat.zero_add, Nat.reduceAdd] at hW4
  rw [hW4]
  refine bodyPost_ret (v := .tuple #[.agg ((⟨W, H, 0, 0, 0, 0, H - 1, false, true, false, false, 0, 0, 0, blanks n, []⟩ : Scr).v A c none 0), .int .i64 0]) (by simp [results, Try.results39, go_sem, Scr.v, kd, blanks_length]) rfl ⟨A, c, none, 0, rfl, ⟨?_, Sl.empty _ _ _ _⟩, bb4⟩
  rw [blanks_length]
  exact hs4.more (by omega) (by have := grownBy_setCells w.heap.size [.int .i64 W, .int .i64 H, .slice A n c, .int .i64 0, .int .i64 0, .int .i64 0, .int .i64 0, .int .i64 (H - 1), .bool false, .bool true, .bool false, .bool false, .int .i64 0, .int .i64 0, .int .i64 0, .slice none 0 0] 0 w3; have := this.size; simp only [World.setCells, Nat.zero_add, Nat.reduceAdd] at this; rw [hW4] at this; exact this)
end Go.Proofs.Ytfeeincglijmjaa
