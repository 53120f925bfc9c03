/- The walk of varint.Put, of eight bytes. -/
import Derived.Test.YtfeeincglijmjaaVF
namespace Go.Proofs.Ytfeeincglijmjaa
open Go.RowKit
set_option linter.unusedVariables false
set_option linter.unusedSimpArgs false
attribute [local go_sem ↓] Go.wp_at_zero Go.wp_at_succ

set_option maxHeartbeats 4000000 in
set_option maxRecDepth 100000 in
theorem put_8 {lo up : Nat} {A : Option Addr} {n c : Nat} {l : List UInt8} {x : Int} {w : World} (hr : Sl w lo up 1 A n c (byteCells l)) (hup : up ≤ w.heap.size) (hn : n ≤ 140737488355000)
    (hx : -9223372036854775808 ≤ x ∧ x ≤ 9223372036854775807) (h : vSize x = 8) : Calls Try.prog 89 #[.slice A n c, .int .i64 x] w (RetBE w (l ++ vBytes x) 0) := by
  have sz := fun W => size_any (w := W) hx
  rw [h] at sz
  have hl : n = l.length := by have := hr.len; rw [byteCells_length] at this; omega
  subst hl
  obtain ⟨i0, hi0, hz0, hz1, hz2⟩ := info_parts info5
  have hb0 : vBytes x = [vByte x 7 + 192, vByte x 6, vByte x 5, vByte x 4, vByte x 3, vByte x 2, vByte x 1, vByte x 0] := by unfold vBytes; rw [h]; rfl
  have Hs := Lib.hid sz
  clear sz
  go_enter Try.func89, Try.ntmps89
  go_wp2_with fail
  refine (Hs.out _).mono ?_
  rintro e w1 ⟨rfl, rfl⟩
  go_wp2_with fail
  refine (clone_any hr hup (by omega)).mono ?_
  rintro e w2 ⟨A2, c2, rfl, hown, hb2⟩
  obtain ⟨g, c3, w3, cur, tail, hrun, hblk, hcur, hc3, hcm, hcs, hg, hgr⟩ := run_append_zeros_own (P := Try.prog) w2 w1.heap.size 23 3 23 5 i0 (.int .u8 0) .i64 .i64 Try.underlying23 Try.underlying3 hi0 hz0 hz1 hz2 rfl rfl _ _ _ hown 8 (by omega) (by omega) hb2.size
  have hcut := cut_l_at Try.underlying23 hi0 hz1 g l.length 8 c3 (by omega) (by omega)
  have hb3 := (Below.refl w1.heap.size w2).grown hgr hb2.size (fun k hk => (hown.lt k hk).1)
  go_wp2_with (at_builtin; refine Lib.wpList_append_run _ rfl _ _ _ _ rfl _ _ rfl rfl _ _ hrun ?_)
  clear hrun
  have hcs2 : cur.toList = byteCells l ++ (byteCells (vRaw x 8 0) ++ (List.replicate (8 - 0) (.int .u8 0) ++ tail)) := by rw [hcur]; simp [vRaw, byteCells]
  have HA := Lib.hid hgr
  clear hcur hgr
  have z3 := hb2.size
  have z4 := hb3.size
  go_loopg [25] 8 (fun gh s25 wr => ∃ (k : Nat) (cs : Array Value), gh = 8 - k ∧ k ≤ 8 ∧ s25 = .int .i64 k ∧ Blk wr g 5 cs ∧ cs.toList = byteCells l ++ (byteCells (vRaw x 8 k) ++ (List.replicate (8 - k) (.int .u8 0) ++ tail)) ∧ cs.size = c3 ∧ Below w1.heap.size w1 wr)
  case atStart => exact ⟨0, cur, rfl, by omega, rfl, hblk, hcs2, hcs, hb2.trans hb3⟩
  case round =>
    obtain ⟨k, cs, hg', hk, rfl, hb, hl, hsz, bb⟩ := hrel
    have ke := hb.rules.2
    clear hblk hcs2 hcs
    by_cases h8 : k = 8
    · subst h8
      have c0 : wr.cell? ⟨g, l.length, none⟩ = some (.int .u8 ((vByte x 7).toNat : Int)) := by
        rw [hb.rules.1, ← Array.getElem?_toList, hl, List.getElem?_append_right (by simp [byteCells]), byteCells_length, show l.length - l.length = 0 from by omega]
        rfl
      have hlt := (vByte x 7).toNat_lt
      go_wp2
      go_rounds 5
      go_ret2
      refine ⟨some ⟨g, 0, none⟩, c3, (by rw [hb0]; simp), ?_, ?_⟩
      · rw [List.length_append, show (vBytes x).length = 8 from by rw [hb0]; rfl]
        refine own_of_blk (by exact ((hb.set_ l.length _).set_ l.length _).set_ l.length _) hg hc3 hcm (by simp [hsz]) ?_
        simp only [Array.toList_setIfInBounds, hl]
        rw [set_at0 _ _ _ _ (by simp [vRaw, byteCells]), set_at0 _ _ _ _ (by simp [vRaw, byteCells]), set_at0 _ _ _ _ (by simp [vRaw, byteCells]), take_at _ _ _ _ (by simp [vRaw, byteCells]), hb0, byteCells_append]
        congr 1
        all_goals simp [vRaw, byteCells, u8_add, List.range_succ]
      · exact ((bb.setCell hg _).setCell hg _).setCell hg _
    · have hz : wr.cell? ⟨g, l.length + k, none⟩ = some (.int .u8 0) := by
        rw [hb.rules.1, ← Array.getElem?_toList, hl, ← List.append_assoc, List.getElem?_append_right (by simp [byteCells, vRaw])]
        rw [show l.length + k - (byteCells l ++ byteCells (vRaw x 8 k)).length = 0 from by simp [byteCells, vRaw], show 8 - k = (8 - (k + 1)) + 1 from by omega, List.replicate_succ]
        rfl
      have hset : ∀ v, (cs.setIfInBounds (l.length + k) v).toList = byteCells l ++ (byteCells (vRaw x 8 k) ++ (v :: (List.replicate (8 - (k + 1)) (.int .u8 0) ++ tail))) := by
        intro v
        rw [Array.toList_setIfInBounds, hl, show 8 - k = (8 - (k + 1)) + 1 from by omega, List.replicate_succ, ← List.append_assoc, List.set_append_right _ _ (by simp [byteCells, vRaw]), List.append_assoc]
        simp [byteCells, vRaw]
      have hsj : vByte x (8 - 1 - k) = vByte x (7 - k) := rfl
      have hk7 : k = 0 ∨ k = 1 ∨ k = 2 ∨ k = 3 ∨ k = 4 ∨ k = 5 ∨ k = 6 ∨ k = 7 := by omega
      obtain ⟨kk, hkk⟩ : ∃ kk, kk = k := ⟨_, rfl⟩
      rcases hk7 with h | h | h | h | h | h | h | h
      all_goals
        subst h
        try simp only [Nat.add_zero] at hz
        go_wp2
        go_roundg (8 - (kk + 1))
        case measure => omega
        case rel =>
          refine ⟨_, _, (by rw [hkk]), ?_, rfl, hb.set_ _ _, ?_, by simp [hsz], bb.setCell hg _⟩
          · decide
          · first | rw [hset] | (have := hset; simp only [Nat.add_zero] at this; rw [this])
            simp [vRaw, List.range_succ, byteCells, vByte_int]

theorem put_any {lo up : Nat} {A : Option Addr} {n c : Nat} {l : List UInt8} {x : Int} {w : World} (hr : Sl w lo up 1 A n c (byteCells l)) (hup : up ≤ w.heap.size) (hn : n ≤ 140737488355000)
    (hx : -9223372036854775808 ≤ x ∧ x ≤ 9223372036854775807) : Calls Try.prog 89 #[.slice A n c, .int .i64 x] w (RetBE w (vPut l x).1 (vPut l x).2) := by
  unfold vPut
  rcases vSize_cases x with h | h | h | h | h
  · rw [if_pos h]; exact put_no hx h
  · rw [if_neg (by omega)]; exact put_1 hr hup hn hx h
  · rw [if_neg (by omega)]; exact put_2 hr hup hn hx h
  · rw [if_neg (by omega)]; exact put_4 hr hup hn hx h
  · rw [if_neg (by omega)]; exact put_8 hr hup hn hx h

end Go.Proofs.Ytfeeincglijmjaa
