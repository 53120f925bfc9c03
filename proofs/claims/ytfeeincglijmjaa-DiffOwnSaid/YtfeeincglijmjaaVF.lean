/- The walks of the document's Bytes and Put. -/
import Derived.Test.YtfeeincglijmjaaVB
import Derived.Deep.LoopGhost
namespace Go.Proofs.Ytfeeincglijmjaa
open Go.RowKit
set_option linter.unusedVariables false
set_option linter.unusedSimpArgs false
attribute [local go_sem ↓] Go.wp_at_zero Go.wp_at_succ

/-- The first m of s bytes of a number, without the mark. -/
def vRaw (x : Int) (s m : Nat) : List UInt8 := (List.range m).map fun t => vByte x (s - 1 - t)
theorem vRaw_length (x : Int) (s m : Nat) : (vRaw x s m).length = m := by simp [vRaw]
theorem vRaw_succ (x : Int) (s m : Nat) : vRaw x s (m + 1) = vRaw x s m ++ [vByte x (s - 1 - m)] := by simp [vRaw, List.range_succ]

theorem blk_of_own {w : World} {base n c : Nat} {e : TypeId} {A : Option Addr} {xs : List Value} (h : w.ownsRow base e 1 (.slice A n c) n xs) (hn : 0 < n) :
    ∃ g cur, A = some ⟨g, 0, none⟩ ∧ Blk w g e cur ∧ n ≤ c ∧ c ≤ maxLen ∧ cur.size = c ∧ base ≤ g ∧ cur.toList.take n = xs := by
  rcases h.2 with ⟨_, h0⟩ | ⟨g, cap, cur, hv, hbg, hh, hnc, hcm, hs, ht⟩
  · omega
  · injection hv with hA _ hc
    subst hA hc
    exact ⟨g, cur, rfl, hh, hnc, hcm, by omega, hbg, by simpa using ht⟩

set_option maxHeartbeats 4000000 in
set_option maxRecDepth 100000 in
theorem rbytes_any {x : Int} {w : World} (h0 : vSize x ≠ 0) : Calls Try.prog 96 #[.int .i64 x] w (RetB w (vBytes x)) := by
  obtain ⟨i0, hi0, hz0, hz1, hz2⟩ := info_parts info5
  have hc := vSize_cases x
  have hs8 : 1 ≤ vSize x ∧ vSize x ≤ 8 := by omega
  have hcase : (vSize x = 1 ∧ vBytes x = [vByte x 0]) ∨ (vSize x = 2 ∧ vBytes x = [vByte x 1 + 64, vByte x 0]) ∨ (vSize x = 4 ∧ vBytes x = [vByte x 3 + 128, vByte x 2, vByte x 1, vByte x 0]) ∨ (vSize x = 8 ∧ vBytes x = [vByte x 7 + 192, vByte x 6, vByte x 5, vByte x 4, vByte x 3, vByte x 2, vByte x 1, vByte x 0]) := by
    unfold vBytes
    rcases hc with h | h | h | h | h <;> rw [h] <;> simp
    omega
  have sz := fun W => rsize_any (x := x) (w := W)
  generalize vBytes x = bs at *
  generalize vSize x = s at *
  have Hs := Lib.hid sz
  have Hcase := Lib.hid hcase
  clear sz hcase hc h0
  obtain ⟨hs1, hs2⟩ := hs8
  go_enter Try.func96, Try.ntmps96
  go_wp2_with fail
  refine (Hs.out _).mono ?_
  rintro e w1 ⟨rfl, rfl⟩
  go_wp2_with fail
  go_loopg [4, 5] s (fun gh s4 s5 wr => ∃ (m c : Nat) (A : Option Addr) (j : Int), gh = s - m ∧ j + 1 + m = s ∧ m ≤ s ∧ s4 = .slice A m c ∧ s5 = .int .i64 j ∧ wr.ownsRow w1.heap.size 5 1 (.slice A m c) m (byteCells (vRaw x s m)) ∧ Below w1.heap.size w1 wr)
  case atStart =>
    exact ⟨0, 0, none, (s : Int) - 1, by omega, by omega, by omega, rfl, rfl, World.ownsRow_nil _ _ _ _, Below.refl _ _⟩
  case round =>
    obtain ⟨m, c, A, j, hg, hj, hm, rfl, rfl, hown, bb⟩ := hrel
    have hjc : j = -1 ∨ j = 0 ∨ j = 1 ∨ j = 2 ∨ j = 3 ∨ j = 4 ∨ j = 5 ∨ j = 6 ∨ j = 7 := by omega
    have bs1 := bb.size
    rcases hjc with h | h
    · subst h
      obtain rfl : m = s := by omega
      obtain ⟨g, cur, rfl, hblk, hc3, hcm, hcs, hbg, ht⟩ := blk_of_own hown hs1
      have ke := hblk.rules.2
      rcases Hcase.out with ⟨rfl, rfl⟩ | ⟨rfl, rfl⟩ | ⟨rfl, rfl⟩ | ⟨rfl, rfl⟩
      · go_wp2
        go_ret
        exact ⟨_, c, rfl, hown, bb⟩
      · have h00 : (cur.toList.take 2)[0]? = some (.int .u8 ((vByte x 1).toNat : Int)) := by rw [ht]; rfl
        rw [List.getElem?_take_of_lt (by omega), Array.getElem?_toList, ← hblk.rules.1] at h00
        have hlt := (vByte x 1).toNat_lt
        clear Hcase Hs
        go_wp2
        go_ret
        refine ⟨_, c, rfl, own_of_blk (hblk.set_ 0 _) hbg hc3 hcm (by simp [hcs]) ?_, bb.setCell hbg _⟩
        show List.take 2 _ = _
        rw [Array.toList_setIfInBounds, List.take_set, ht]
        simp [vRaw, byteCells, u8_add, List.range_succ]
      · have h00 : (cur.toList.take 4)[0]? = some (.int .u8 ((vByte x 3).toNat : Int)) := by rw [ht]; rfl
        rw [List.getElem?_take_of_lt (by omega), Array.getElem?_toList, ← hblk.rules.1] at h00
        have hlt := (vByte x 3).toNat_lt
        clear Hcase Hs
        go_wp2
        go_ret
        refine ⟨_, c, rfl, own_of_blk (hblk.set_ 0 _) hbg hc3 hcm (by simp [hcs]) ?_, bb.setCell hbg _⟩
        show List.take 4 _ = _
        rw [Array.toList_setIfInBounds, List.take_set, ht]
        simp [vRaw, byteCells, u8_add, List.range_succ]
      · have h00 : (cur.toList.take 8)[0]? = some (.int .u8 ((vByte x 7).toNat : Int)) := by rw [ht]; rfl
        rw [List.getElem?_take_of_lt (by omega), Array.getElem?_toList, ← hblk.rules.1] at h00
        have hlt := (vByte x 7).toNat_lt
        clear Hcase Hs
        go_wp2
        go_ret
        refine ⟨_, c, rfl, own_of_blk (hblk.set_ 0 _) hbg hc3 hcm (by simp [hcs]) ?_, bb.setCell hbg _⟩
        show List.take 8 _ = _
        rw [Array.toList_setIfInBounds, List.take_set, ht]
        simp [vRaw, byteCells, u8_add, List.range_succ]
    · have hms : m < s := by omega
      have hsj : vByte x (s - 1 - m) = vByte x j.toNat := by congr 1; omega
      have Hsj := Lib.hid hsj
      clear hsj
      rcases h with h | h | h | h | h | h | h | h
      all_goals
        subst h
        go_wp2_with (at_builtin; refine wpList_append_sl _ rfl (.tmp 14) (.tmp 21) _ rfl w1.heap.size 5 i0 _ 1 1 Try.underlying23 hi0 hz0 hz1 hz2 rfl (by omega) (.slice A m c) m _ rfl (own_alloc hown _) wr.heap.size (wr.heap.size + 1) _ 1 1 _ rfl (Sl.new wr 5 _ 1 1 1 _ rfl (by omega) rfl rfl) (by intro u hu; simp at hu; subst hu; rfl) (m + 1) rfl _ rfl (by unfold maxLen; omega) (by omega) (by simp; omega) ?_; intro A' c' w' hown' hgr; have hb := grown_below (B := w1.heap.size) hgr (by simp; omega) (fun k hk => (hown.lt k hk).1))
        go_roundg (s - (m + 1))
        case measure => omega
        case rel =>
          refine ⟨m + 1, c', A', _, rfl, ?_, by omega, rfl, rfl, ?_, (bb.alloc bs1 _).trans hb⟩
          · omega
          · rw [vRaw_succ, byteCells_append, Hsj.out]
            have hq := hown'
            simp [byteCells, vByte_int] at hq ⊢
            exact hq

theorem vBytes_le (x : Int) : (vBytes x).length ≤ 8 := by
  unfold vBytes
  split <;> simp
end Go.Proofs.Ytfeeincglijmjaa
