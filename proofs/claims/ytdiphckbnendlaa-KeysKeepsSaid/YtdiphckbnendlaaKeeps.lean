/- The walk of KeysKeeps. -/
import Derived.Test.YtdiphckbnendlaaI
import Derived.Deep.LoopGhost
import Derived.RegionTactic
import Derived.ChangeAlike
import Derived.BigRegion
namespace Go.Proofs.Ytdiphckbnendlaa
set_option linter.unusedVariables false
open Go.RowKit
attribute [local go_sem ↓] Go.wp_at_zero Go.wp_at_succ

theorem keeps_long {f : Int} {A : Option Addr} {n c : Nat} {A2 : Option Addr} {n2 c2 : Nat} {w : World} (hn : 64 < n ∨ 100 < n2) :
    Calls Try.prog 7 #[.int .u16 f, .slice A n c, .slice A2 n2 c2] w fun e w' => e = .returned (.bool true) ∧ Below w.heap.size w w' := by
  go_enter Try.func7, Try.ntmps7
  go_wp2_with fail
  refine (awake_any _).mono ?_
  rintro e w1 ⟨rfl, hb1⟩
  go_wp2
  all_goals
    go_ret
    exact ⟨rfl, hb1⟩

theorem bytes_add' (a b : List UInt8) : (⟨a.toArray⟩ : ByteArray) ++ ⟨b.toArray⟩ = ⟨(a ++ b).toArray⟩ := by
  apply ByteArray.ext
  rw [ByteArray.data_append]
  simp
/-- A block of another element type is none that is owned. -/
theorem Blk.ne_own {w : World} {g g' : Nat} {cs : Array Value} {base n cap : Nat} {xs : List Value} (h : Blk w g 24 cs) (h' : w.ownsRow base 5 1 (.slice (some ⟨g', 0, none⟩) n cap) n xs) : g ≠ g' := by
  rintro rfl
  rcases h'.2 with ⟨h2, _⟩ | ⟨g2, cap2, cur, hv, _, hh, _⟩
  · cases h2
  · injection hv with hv
    injection hv with hv
    injection hv with hv
    subst hv
    unfold Blk at h
    rw [h] at hh
    injection hh with hh
    injection hh with _ ht
    exact absurd ht (by decide)
/-- What is typed: the bytes and the error. -/
def kData (l b : List UInt8) : List UInt8 := if l.length + b.length ≤ 64 then l ++ b else l
def kErr (l b : List UInt8) : Int := if l.length + b.length ≤ 64 then 0 else 210
theorem kType_keeps {f : Int} {l b : List UInt8} (h0 : 0 ≤ f) (h1 : f ≤ 65535) (hl : l.length ≤ 64) : kType f l b = (f, kData l b, kErr l b) := by
  unfold kType kData kErr
  rw [kOf_ok h0 (by omega) hl]
  by_cases h : l.length + b.length ≤ 64
  · rw [if_pos ⟨by simpa using h, by simp; omega⟩, if_pos h, if_pos h]
  · rw [if_neg (fun h' => h h'.1), if_neg h, if_neg h]

set_option maxRecDepth 100000 in
set_option maxHeartbeats 4000000 in
theorem keeps_fit {f : Int} {A : Option Addr} {c : Nat} {l : List UInt8} {A2 : Option Addr} {c2 : Nat} {b : List UInt8} {w : World} (hr : Sl w 0 w.heap.size 1 A l.length c (byteCells l)) (hr2 : Sl w 0 w.heap.size 1 A2 b.length c2 (byteCells b))
    (hn : l.length ≤ 64) (hn2 : b.length ≤ 100) (hf : 0 ≤ f ∧ f ≤ 65535) (hc1 : l.length + b.length ≤ 64) (R : List UInt8) (hc3 : R = l ++ b) (hRl : R.length ≤ 64) :
    Calls Try.prog 7 #[.int .u16 f, .slice A l.length c, .slice A2 b.length c2] w fun e w' => e = .returned (.bool true) ∧ Below w.heap.size w w' := by
  have T1 := fun W lo up lo2 up2 h1 h2 h3 h4 => type_any (lo := lo) (up := up) (lo2 := lo2) (up2 := up2) (f := f) (A := A) (n := l.length) (c := c) (l := l) (A2 := A2) (n2 := b.length) (c2 := c2) (b := b) (w := W) h1 h2 h3 h4 (by omega)
  rw [kType_keeps hf.1 hf.2 hn, show kData l b = R from by rw [hc3]; exact if_pos hc1, show kErr l b = 0 from if_pos hc1] at T1
  have HT := Lib.hid T1
  clear T1
  have HC3 := Lib.hid hc3
  clear hc3
  go_enter Try.func7, Try.ntmps7
  go_wp2_with fail
  refine (awake_any _).mono ?_
  rintro e w1 ⟨rfl, bb⟩
  have z1 := bb.size
  have q0 := run_string_of (dst := 9) ((hr.below bb (Nat.le_refl _)).alloc z1 (.cells #[.int .i64 f, .slice A l.length c] 24)) Try.underlying22 Try.underlying5 Try.underlying9
  go_wp2_with fail
  have bb1 := bb.alloc z1 (.cells #[.int .i64 f, .slice A l.length c] 24)
  have b8 := Blk.new w1 24 #[.int .i64 f, .slice A l.length c] rfl
  refine (HT.out _ _ _ _ _ (hr.below bb1 (Nat.le_refl _)) (by simp; omega) (hr2.below bb1 (Nat.le_refl _)) (by simp; omega)).mono ?_
  rintro e w2 ⟨U, cu, rfl, hU, hb2⟩
  have z2 : w1.heap.size + 1 ≤ w2.heap.size := by have := hb2.size; simp at this; omega
  have c8 := (b8.later hb2).alloc (.cells #[.int .i64 f, .slice U R.length cu] 24)
  have c10 := Blk.new w2 24 #[.int .i64 f, .slice U R.length cu] rfl
  have hU2 := own_alloc (own_more (base' := w1.heap.size + 1) hU (by simp)) (.cells #[.int .i64 f, .slice U R.length cu] 24)
  have bb2 := (bb1.trans (hb2.mono (by simp; omega))).alloc (by omega) (.cells #[.int .i64 f, .slice U R.length cu] 24)
  have q1 := run_string_of (dst := 9) (hr.below bb2 (Nat.le_refl _)) Try.underlying22 Try.underlying5 Try.underlying9
  clear q0 hb2 b8 hU bb bb1
  have ⟨kc, ke⟩ := c10.rules
  go_wp2_with fail
  clear kc ke
  go_loopg [13] R.length (fun g s13 wr => ∃ (i : Nat) (xs : List Value), i ≤ R.length ∧ g = R.length - i ∧ s13 = .int .i64 i ∧ Below w.heap.size w wr ∧ w2.heap.size < wr.heap.size ∧ Blk wr w1.heap.size 24 #[.int .i64 f, .slice A l.length c] ∧
      Blk wr w2.heap.size 24 #[.int .i64 f, .slice U R.length cu] ∧ wr.ownsRow (w1.heap.size + 1) 5 1 (.slice U R.length cu) R.length xs ∧ ∀ v ∈ xs, ∃ z, v = .int .u8 z)
  case atStart => exact ⟨0, byteCells R, Nat.zero_le _, by omega, rfl, bb2, by simp, c8, c10, hU2, fun v hv => by simp only [byteCells, List.mem_map] at hv; obtain ⟨x, _, rfl⟩ := hv; exact ⟨_, rfl⟩⟩
  case round =>
    clear c8 c10 hU2 bb2 q1
    obtain ⟨i, xs, hi, hg, rfl, bb, z3, b8, b10, hU, hxs⟩ := hrel
    have ⟨kc, ke⟩ := b10.rules
    by_cases hlt : i < R.length
    · obtain ⟨gU, hgU⟩ : ∃ gU, U = some ⟨gU, 0, none⟩ := by
        rcases hU.2 with ⟨_, h0⟩ | ⟨g', _, _, hv, _⟩
        · omega
        · injection hv with hv; exact ⟨g', hv⟩
      subst hgU
      obtain ⟨z, hz⟩ := hxs (xs[i]'(by have := hU.1; omega)) (List.getElem_mem _)
      have hci : wr.cell? ⟨gU, i, none⟩ = some (.int .u8 z) := by rw [hU.cellAt i (by omega), List.getElem?_eq_getElem (by have := hU.1; omega), hz]
      have hfi := hU.frozenAt i
      have hlt' : (i : Int) < R.length := by omega
      have hi0 : (0 : Int) ≤ i := by omega
      clear hz
      go_wp2_with fail
      go_region
      go_wp2
      go_roundg (R.length - (i + 1))
      case measure => omega
      case rel =>
        have hgb := (hU.lt gU rfl)
        refine ⟨i + 1, _, by omega, rfl, by go_num, (bb.setCell (p := ⟨gU, i, none⟩) (by simp; omega) _).drew, by simpa using z3, (b8.far (p := ⟨gU, i, none⟩) (by simp; omega) _).drew, (b10.far (p := ⟨gU, i, none⟩) (Blk.ne_own b10 hU) _).drew, (hU.stored i _).1, ?_⟩
        intro v hv
        rcases List.mem_or_eq_of_mem_set hv with hv | rfl
        · exact hxs v hv
        · exact ⟨_, rfl⟩
    · obtain rfl : i = R.length := by omega
      have ⟨kc8, ke8⟩ := b8.rules
      go_wp2_with fail
      refine (HT.out _ _ _ _ _ (hr.below bb (Nat.le_refl _)) (by omega) (hr2.below bb (Nat.le_refl _)) (by omega)).mono ?_
      rintro e w3 ⟨V, cv, rfl, hV, hb3⟩
      have z4 := hb3.size
      have bb3 := (bb.trans (hb3.mono (by omega))).alloc (by omega) (.cells #[.int .i64 f, .slice V R.length cv] 24)
      have sV := (Sl.of_own hV).alloc (Nat.le_refl _) (.cells #[.int .i64 f, .slice V R.length cv] 24)
      have q3 := run_string_of (dst := 9) (hr.below bb3 (Nat.le_refl _)) Try.underlying22 Try.underlying5 Try.underlying9
      have q4 := run_string_of (dst := 9) (hr2.below bb3 (Nat.le_refl _)) Try.underlying22 Try.underlying5 Try.underlying9
      have q5 := run_string_of (dst := 9) sV Try.underlying22 Try.underlying5 Try.underlying9
      clear kc kc8 ke ke8 hb3 hV sV
      have ⟨kv, kev⟩ := (Blk.new w3 24 #[.int .i64 f, .slice V R.length cv] rfl).rules
      have hadd := bytes_add' l b
      rw [← HC3.out] at hadd
      go_wp2
      go_ret
      exact ⟨rfl, bb3⟩

set_option maxRecDepth 100000 in
set_option maxHeartbeats 4000000 in
theorem keeps_full {f : Int} {A : Option Addr} {c : Nat} {l : List UInt8} {A2 : Option Addr} {c2 : Nat} {b : List UInt8} {w : World} (hr : Sl w 0 w.heap.size 1 A l.length c (byteCells l)) (hr2 : Sl w 0 w.heap.size 1 A2 b.length c2 (byteCells b))
    (hn : l.length ≤ 64) (hn2 : b.length ≤ 100) (hf : 0 ≤ f ∧ f ≤ 65535) (hc1 : 64 < l.length + b.length) :
    Calls Try.prog 7 #[.int .u16 f, .slice A l.length c, .slice A2 b.length c2] w fun e w' => e = .returned (.bool true) ∧ Below w.heap.size w w' := by
  have T1 := fun W lo up lo2 up2 h1 h2 h3 h4 => type_any (lo := lo) (up := up) (lo2 := lo2) (up2 := up2) (f := f) (A := A) (n := l.length) (c := c) (l := l) (A2 := A2) (n2 := b.length) (c2 := c2) (b := b) (w := W) h1 h2 h3 h4 (by omega)
  rw [kType_keeps hf.1 hf.2 hn, show kData l b = l from if_neg (by omega), show kErr l b = 210 from if_neg (by omega)] at T1
  have HT := Lib.hid T1
  clear T1
  go_enter Try.func7, Try.ntmps7
  go_wp2_with fail
  refine (awake_any _).mono ?_
  rintro e w1 ⟨rfl, bb⟩
  have z1 := bb.size
  have q0 := run_string_of (dst := 9) ((hr.below bb (Nat.le_refl _)).alloc z1 (.cells #[.int .i64 f, .slice A l.length c] 24)) Try.underlying22 Try.underlying5 Try.underlying9
  go_wp2_with fail
  have bb1 := bb.alloc z1 (.cells #[.int .i64 f, .slice A l.length c] 24)
  have b8 := Blk.new w1 24 #[.int .i64 f, .slice A l.length c] rfl
  refine (HT.out _ _ _ _ _ (hr.below bb1 (Nat.le_refl _)) (by simp; omega) (hr2.below bb1 (Nat.le_refl _)) (by simp; omega)).mono ?_
  rintro e w2 ⟨U, cu, rfl, hU, hb2⟩
  have z2 : w1.heap.size + 1 ≤ w2.heap.size := by have := hb2.size; simp at this; omega
  have c8 := (b8.later hb2).alloc (.cells #[.int .i64 f, .slice U l.length cu] 24)
  have c10 := Blk.new w2 24 #[.int .i64 f, .slice U l.length cu] rfl
  have hU2 := own_alloc (own_more (base' := w1.heap.size + 1) hU (by simp)) (.cells #[.int .i64 f, .slice U l.length cu] 24)
  have bb2 := (bb1.trans (hb2.mono (by simp; omega))).alloc (by omega) (.cells #[.int .i64 f, .slice U l.length cu] 24)
  have q1 := run_string_of (dst := 9) (hr.below bb2 (Nat.le_refl _)) Try.underlying22 Try.underlying5 Try.underlying9
  clear q0 hb2 b8 hU bb bb1
  have ⟨kc, ke⟩ := c10.rules
  go_wp2_with fail
  clear kc ke
  go_loopg [13] l.length (fun g s13 wr => ∃ (i : Nat) (xs : List Value), i ≤ l.length ∧ g = l.length - i ∧ s13 = .int .i64 i ∧ Below w.heap.size w wr ∧ w2.heap.size < wr.heap.size ∧ Blk wr w1.heap.size 24 #[.int .i64 f, .slice A l.length c] ∧
      Blk wr w2.heap.size 24 #[.int .i64 f, .slice U l.length cu] ∧ wr.ownsRow (w1.heap.size + 1) 5 1 (.slice U l.length cu) l.length xs ∧ ∀ v ∈ xs, ∃ z, v = .int .u8 z)
  case atStart => exact ⟨0, byteCells l, Nat.zero_le _, by omega, rfl, bb2, by simp, c8, c10, hU2, fun v hv => by simp only [byteCells, List.mem_map] at hv; obtain ⟨x, _, rfl⟩ := hv; exact ⟨_, rfl⟩⟩
  case round =>
    clear c8 c10 hU2 bb2 q1
    obtain ⟨i, xs, hi, hg, rfl, bb, z3, b8, b10, hU, hxs⟩ := hrel
    have ⟨kc, ke⟩ := b10.rules
    by_cases hlt : i < l.length
    · obtain ⟨gU, hgU⟩ : ∃ gU, U = some ⟨gU, 0, none⟩ := by
        rcases hU.2 with ⟨_, h0⟩ | ⟨g', _, _, hv, _⟩
        · omega
        · injection hv with hv; exact ⟨g', hv⟩
      subst hgU
      obtain ⟨z, hz⟩ := hxs (xs[i]'(by have := hU.1; omega)) (List.getElem_mem _)
      have hci : wr.cell? ⟨gU, i, none⟩ = some (.int .u8 z) := by rw [hU.cellAt i (by omega), List.getElem?_eq_getElem (by have := hU.1; omega), hz]
      have hfi := hU.frozenAt i
      have hlt' : (i : Int) < l.length := by omega
      have hi0 : (0 : Int) ≤ i := by omega
      clear hz
      go_wp2_with fail
      go_region
      go_wp2
      go_roundg (l.length - (i + 1))
      case measure => omega
      case rel =>
        have hgb := (hU.lt gU rfl)
        refine ⟨i + 1, _, by omega, rfl, by go_num, (bb.setCell (p := ⟨gU, i, none⟩) (by simp; omega) _).drew, by simpa using z3, (b8.far (p := ⟨gU, i, none⟩) (by simp; omega) _).drew, (b10.far (p := ⟨gU, i, none⟩) (Blk.ne_own b10 hU) _).drew, (hU.stored i _).1, ?_⟩
        intro v hv
        rcases List.mem_or_eq_of_mem_set hv with hv | rfl
        · exact hxs v hv
        · exact ⟨_, rfl⟩
    · obtain rfl : i = l.length := by omega
      have ⟨kc8, ke8⟩ := b8.rules
      go_wp2_with fail
      refine (HT.out _ _ _ _ _ (hr.below bb (Nat.le_refl _)) (by omega) (hr2.below bb (Nat.le_refl _)) (by omega)).mono ?_
      rintro e w3 ⟨V, cv, rfl, hV, hb3⟩
      have z4 := hb3.size
      have bb3 := (bb.trans (hb3.mono (by omega))).alloc (by omega) (.cells #[.int .i64 f, .slice V l.length cv] 24)
      have sV := (Sl.of_own hV).alloc (Nat.le_refl _) (.cells #[.int .i64 f, .slice V l.length cv] 24)
      have q3 := run_string_of (dst := 9) (hr.below bb3 (Nat.le_refl _)) Try.underlying22 Try.underlying5 Try.underlying9
      have q4 := run_string_of (dst := 9) (hr2.below bb3 (Nat.le_refl _)) Try.underlying22 Try.underlying5 Try.underlying9
      have q5 := run_string_of (dst := 9) sV Try.underlying22 Try.underlying5 Try.underlying9
      clear kc kc8 ke ke8 hb3 hV sV
      have ⟨kv, kev⟩ := (Blk.new w3 24 #[.int .i64 f, .slice V l.length cv] rfl).rules
      go_wp2
      go_ret
      exact ⟨rfl, bb3⟩

theorem keeps_any {f : Int} {A : Option Addr} {c : Nat} {l : List UInt8} {A2 : Option Addr} {c2 : Nat} {b : List UInt8} {w : World} (hr : Sl w 0 w.heap.size 1 A l.length c (byteCells l)) (hr2 : Sl w 0 w.heap.size 1 A2 b.length c2 (byteCells b))
    (hf : 0 ≤ f ∧ f ≤ 65535) :
    Calls Try.prog 7 #[.int .u16 f, .slice A l.length c, .slice A2 b.length c2] w fun e w' => e = .returned (.bool true) ∧ Below w.heap.size w w' := by
  by_cases h : l.length ≤ 64 ∧ b.length ≤ 100
  · by_cases h2 : l.length + b.length ≤ 64
    · exact keeps_fit hr hr2 h.1 h.2 hf h2 (l ++ b) rfl (by simpa using h2)
    · exact keeps_full hr hr2 h.1 h.2 hf (by omega)
  · exact keeps_long (by omega)
end Go.Proofs.Ytdiphckbnendlaa
