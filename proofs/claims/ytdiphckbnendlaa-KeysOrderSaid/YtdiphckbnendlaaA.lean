/- The walks of bytes.Clone, of keys.of and of the document's of. -/
import Derived.Test.YtdiphckbnendlaaProg
import Derived.Test.YtdiphckbnendlaaLib
import Derived.Deep.RegionHeld3
import Derived.Deep.DrawnRows
namespace Go.Proofs.Ytdiphckbnendlaa
open Go.RowKit
attribute [local go_sem ↓] Go.wp_at_zero Go.wp_at_succ

theorem info5 : (Try.prog.info? 5).map (fun i => (i.zero, i.size, i.bytes)) = some (some (.int .u8 0), 1, 1) := by kernel_rfl

/-- What a slice of bytes of the callee's own is handed back as. -/
def RetB (w : World) (l : List UInt8) (e : Ending) (w' : World) : Prop :=
  ∃ A c, e = .returned (.slice A l.length c) ∧ w'.ownsRow w.heap.size 5 1 (.slice A l.length c) l.length (byteCells l) ∧ Below w.heap.size w w'

theorem clone_any {lo up : Nat} {A : Option Addr} {n c : Nat} {l : List UInt8} {w : World} (hr : Sl w lo up 1 A n c (byteCells l)) (hup : up ≤ w.heap.size) (hn : n ≤ 140737488355328) :
    Calls Try.prog 20 #[.slice A n c] w (RetB w l) := by
  have hl : n = l.length := by have := hr.len; rw [byteCells_length] at this; omega
  obtain ⟨i0, hi0, hz0, hz1, hz2⟩ := info_parts info5
  rcases A with _ | ad
  · have hc := hr.nil rfl
    have hle := hr.le
    obtain rfl : c = 0 := hc
    obtain rfl : n = 0 := by omega
    obtain rfl : l = [] := List.eq_nil_of_length_eq_zero hl.symm
    have q : ∀ (w : World), (binOp .eql 22 (.slice none 0 0) (.slice none 0 0)).run Try.prog w = .ok (.bool true) w := fun w => Lib.run_eql_slice_nil w _ _ none 0 0 0 0 Try.underlying22
    clear hl hle hn hi0 hz0 hz1 hz2 hr hup
    go_enter Try.func20, Try.ntmps20
    go_wp2
    go_ret
    exact ⟨none, 0, rfl, World.ownsRow_nil _ _ _ _, Below.refl _ _⟩
  · subst hl
    have q : ∀ (w : World), (binOp .eql 22 (.slice (some ad) l.length c) (.slice none 0 0)).run Try.prog w = .ok (.bool false) w := fun w => Lib.run_eql_slice_nil w _ _ (some ad) l.length c 0 0 Try.underlying22
    go_enter Try.func20, Try.ntmps20
    go_wp2_with (at_builtin; refine wpList_append_sl _ rfl (.tmp 5) (.tmp 6) _ rfl w.heap.size 5 i0 _ 1 1 Try.underlying22 hi0 hz0 hz1 hz2 rfl (by omega) (.slice (some ⟨w.heap.size, 0, none⟩) 0 0) 0 [] rfl (own_made rfl (Nat.le_refl _)) lo up _ l.length c _ rfl (hr.alloc hup _) (byteCells_one l) l.length (by omega) _ rfl (by unfold maxLen; omega) (by omega) (by simp) ?_; intro A' c' w' hown hg)
    go_ret
    exact ⟨A', c', rfl, hown, ((Below.refl _ _).alloc (Nat.le_refl _) _).grown hg (by simp) (fun k hk => by simp [Value.ownBlock] at hk; omega)⟩

/-- What a Typed of the callee's own is handed back as. -/
def RetT (w : World) (f : Int) (l : List UInt8) (e : Ending) (w' : World) : Prop :=
  ∃ A c, e = .returned (.agg #[.int .i64 f, .slice A l.length c]) ∧ w'.ownsRow w.heap.size 5 1 (.slice A l.length c) l.length (byteCells l) ∧ Below w.heap.size w w'

theorem of_yes {lo up : Nat} {f : Int} {A : Option Addr} {n c : Nat} {l : List UInt8} {w : World} (hr : Sl w lo up 1 A n c (byteCells l)) (hup : up ≤ w.heap.size) (hn : n ≤ 64) (h0 : 0 ≤ f) (h1 : f ≤ 4611686018427387839) :
    Calls Try.prog 18 #[.agg #[.int .i64 f, .slice A n c]] w (RetT w f l) := by
  go_enter Try.func18, Try.ntmps18
  go_wp2_with fail
  have hr2 := ((hr.alloc hup (.cells #[.int .i64 f, .slice A n c] 24)).alloc (by simp; omega) (.cells #[.int .i64 0, .slice none 0 0] 24)).drew
  have a0 : Blk ((w.alloc (.cells #[.int .i64 f, .slice A n c] 24)).alloc (.cells #[.int .i64 0, .slice none 0 0] 24)).drew w.heap.size 24 #[.int .i64 f, .slice A n c] := (Blk.new _ _ _ rfl).alloc _
  have a1 : Blk ((w.alloc (.cells #[.int .i64 f, .slice A n c] 24)).alloc (.cells #[.int .i64 0, .slice none 0 0] 24)).drew (w.heap.size + 1) 24 #[.int .i64 0, .slice none 0 0] := Blk.new _ _ _ (by simp)
  go_region_held3 (fun w' => w'.cell? ⟨w.heap.size, 0, none⟩ = some (.int .i64 f) ∧ w'.cell? ⟨w.heap.size, 1, none⟩ = some (.slice A n c)) (first | go_keep | exact ⟨(kc0 0), (kc0 1)⟩)
    ((go_at_call 20; refine (clone_any hr2 (by simp; omega) (by omega)).mono ?_; rintro e w' ⟨A', c', rfl, hown, hb⟩; have ⟨kc0, ke0⟩ := (a0.later hb).rules; have ⟨kc1, ke1⟩ := (a1.later hb).rules))
  go_wp2
  refine bodyPost_ret (v := .agg #[.int .i64 f, .slice A' l.length c']) (by simp [results, Try.results18, go_sem, kc1]) rfl ⟨A', c', rfl, ?_, ?_⟩
  · exact own_more (ownsRow_setCell_below (ownsRow_setCell_below hown (by simp) _) (by simp) _) (by simp; omega)
  · exact ((((((Below.refl _ w).alloc (Nat.le_refl _) _).alloc (by simp) _).drew).trans (hb.mono (by simp; omega))).setCell (by simp) _).setCell (by simp) _

theorem of_no {f : Int} {A : Option Addr} {n c : Nat} {w : World} (h : f < 0 ∨ 4611686018427387839 < f ∨ 64 < n) :
    Calls Try.prog 18 #[.agg #[.int .i64 f, .slice A n c]] w (RetT w 0 []) := by
  have e : (decide (f < 0) || decide (4611686018427387839 < f) || decide (64 < (n : Int))) = true := by simp; omega
  go_enter Try.func18, Try.ntmps18
  go_wp2
  all_goals exact bodyPost_ret (v := .agg #[.int .i64 0, .slice none 0 0]) (by simp [results, Try.results18, go_sem]) rfl ⟨none, 0, rfl, World.ownsRow_nil _ _ _ _, ((Below.refl _ w).alloc (Nat.le_refl _) _).alloc (by simp) _⟩

theorem rof_no {f : Int} {A : Option Addr} {n c : Nat} {w : World} (h : f < 0 ∨ 4611686018427387839 < f ∨ 64 < n) :
    Calls Try.prog 19 #[.agg #[.int .i64 f, .slice A n c]] w (RetT w 0 []) := by
  have e : (decide (f < 0) || decide (4611686018427387839 < f) || decide (64 < (n : Int))) = true := by simp; omega
  go_enter Try.func19, Try.ntmps19
  go_wp2
  all_goals exact bodyPost_ret (v := .agg #[.int .i64 0, .slice none 0 0]) (by simp [results, Try.results19, go_sem]) rfl ⟨none, 0, rfl, World.ownsRow_nil _ _ _ _, ((Below.refl _ w).alloc (Nat.le_refl _) _).alloc (by simp) _⟩

theorem rof_yes {lo up : Nat} {f : Int} {A : Option Addr} {n c : Nat} {l : List UInt8} {w : World} (hr : Sl w lo up 1 A n c (byteCells l)) (hup : up ≤ w.heap.size) (hn : n ≤ 64) (h0 : 0 ≤ f) (h1 : f ≤ 4611686018427387839) :
    Calls Try.prog 19 #[.agg #[.int .i64 f, .slice A n c]] w (RetT w f l) := by
  obtain ⟨i0, hi0, hz0, hz1, hz2⟩ := info_parts info5
  have hl : n = l.length := by have := hr.len; rw [byteCells_length] at this; omega
  subst hl
  go_enter Try.func19, Try.ntmps19
  go_wp2_with fail
  have hr2 := ((hr.alloc hup (.cells #[.int .i64 f, .slice A l.length c] 24)).alloc (by simp; omega) (.cells #[.int .i64 0, .slice none 0 0] 24)).drew
  have a0 : Blk ((w.alloc (.cells #[.int .i64 f, .slice A l.length c] 24)).alloc (.cells #[.int .i64 0, .slice none 0 0] 24)).drew w.heap.size 24 #[.int .i64 f, .slice A l.length c] := (Blk.new _ _ _ rfl).alloc _
  have a1 : Blk ((w.alloc (.cells #[.int .i64 f, .slice A l.length c] 24)).alloc (.cells #[.int .i64 0, .slice none 0 0] 24)).drew (w.heap.size + 1) 24 #[.int .i64 0, .slice none 0 0] := Blk.new _ _ _ (by simp)
  go_region_held3 (fun w' => w'.cell? ⟨w.heap.size, 0, none⟩ = some (.int .i64 f) ∧ w'.cell? ⟨w.heap.size, 1, none⟩ = some (.slice A l.length c)) (first | go_keep | exact ⟨(kc0 0), (kc0 1)⟩)
    ((refine step_append_sl _ rfl _ _ _ rfl (w.heap.size + 2) 5 i0 _ 1 1 Try.underlying22 hi0 hz0 hz1 hz2 rfl (by omega) (.slice (some ⟨w.heap.size + 2, 0, none⟩) 0 0) 0 [] rfl (own_drew (own_made (by simp) (by omega))) lo up _ l.length c _ rfl (hr2.alloc (by simp; omega) _) (byteCells_one l) l.length (by omega) _ rfl (by unfold maxLen; omega) (by omega) (by simp) ?_; intro A' c' w' hown hg; have hb := grown_below (B := w.heap.size + 2) hg (by simp) (by simp [Value.ownBlock]); have ⟨kc0, ke0⟩ := ((a0.alloc _).below hb (by omega)).rules; have ⟨kc1, ke1⟩ := ((a1.alloc _).below hb (by omega)).rules))
  go_wp2
  refine bodyPost_ret (v := .agg #[.int .i64 f, .slice A' l.length c']) (by simp [results, Try.results19, go_sem, kc1]) rfl ⟨A', c', rfl, ?_, ?_⟩
  · exact own_more (ownsRow_setCell_below (ownsRow_setCell_below hown (by simp) _) (by simp) _) (by omega)
  · exact ((((((Below.refl _ w).alloc (Nat.le_refl _) _).alloc (by simp) _).alloc (by simp; omega) _).drew.trans (hb.mono (by omega))).setCell (by simp) _).setCell (by simp) _

/-- What waits, if it may be; else an empty one. -/
def kOf (f : Int) (l : List UInt8) : Int × List UInt8 := if 0 ≤ f ∧ f ≤ 4611686018427387839 ∧ l.length ≤ 64 then (f, l) else (0, [])
theorem kOf_le (f : Int) (l : List UInt8) : 0 ≤ (kOf f l).1 ∧ (kOf f l).1 ≤ 4611686018427387839 ∧ (kOf f l).2.length ≤ 64 := by
  unfold kOf
  by_cases h : 0 ≤ f ∧ f ≤ 4611686018427387839 ∧ l.length ≤ 64
  · rw [if_pos h]; exact h
  · rw [if_neg h]; simp
theorem kOf_ok {f : Int} {l : List UInt8} (h : 0 ≤ f) (h1 : f ≤ 4611686018427387839) (h2 : l.length ≤ 64) : kOf f l = (f, l) := if_pos ⟨h, h1, h2⟩

theorem of_any {lo up : Nat} {f : Int} {A : Option Addr} {n c : Nat} {l : List UInt8} {w : World} (hr : Sl w lo up 1 A n c (byteCells l)) (hup : up ≤ w.heap.size) :
    Calls Try.prog 18 #[.agg #[.int .i64 f, .slice A n c]] w (RetT w (kOf f l).1 (kOf f l).2) := by
  have hl : n = l.length := by have := hr.len; rw [byteCells_length] at this; omega
  unfold kOf
  by_cases h : 0 ≤ f ∧ f ≤ 4611686018427387839 ∧ l.length ≤ 64
  · rw [if_pos h]; exact of_yes hr hup (by omega) h.1 h.2.1
  · rw [if_neg h]; exact of_no (by omega)
theorem rof_any {lo up : Nat} {f : Int} {A : Option Addr} {n c : Nat} {l : List UInt8} {w : World} (hr : Sl w lo up 1 A n c (byteCells l)) (hup : up ≤ w.heap.size) :
    Calls Try.prog 19 #[.agg #[.int .i64 f, .slice A n c]] w (RetT w (kOf f l).1 (kOf f l).2) := by
  have hl : n = l.length := by have := hr.len; rw [byteCells_length] at this; omega
  unfold kOf
  by_cases h : 0 ≤ f ∧ f ≤ 4611686018427387839 ∧ l.length ≤ 64
  · rw [if_pos h]; exact rof_yes hr hup (by omega) h.1 h.2.1
  · rw [if_neg h]; exact rof_no (by omega)
end Go.Proofs.Ytdiphckbnendlaa
