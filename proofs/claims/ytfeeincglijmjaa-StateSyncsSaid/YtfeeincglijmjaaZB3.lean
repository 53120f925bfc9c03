/- Texts of this seat, one behind the other. -/
import Derived.Test.YtfeeincglijmjaaZB1
import Derived.Deep.LoopGhost
namespace Go.Proofs.Ytfeeincglijmjaa
/- The walk of varint.Put. -/
section
open Go.RowKit
set_option linter.unusedVariables false
set_option linter.unusedSimpArgs false
attribute [local go_sem ↓] Go.wp_at_zero Go.wp_at_succ

/-- Byte number k of a number, from its low end. -/
def vByte (x : Int) (k : Nat) : UInt8 := UInt8.ofNat (x / 2 ^ (8 * k) % 256).toNat
/-- A number's bytes. -/
def vBytes (x : Int) : List UInt8 :=
  match vSize x with
  | 1 => [vByte x 0]
  | 2 => [vByte x 1 + 64, vByte x 0]
  | 4 => [vByte x 3 + 128, vByte x 2, vByte x 1, vByte x 0]
  | 8 => [vByte x 7 + 192, vByte x 6, vByte x 5, vByte x 4, vByte x 3, vByte x 2, vByte x 1, vByte x 0]
  | _ => []

theorem cut_l_at {P : Program} {t e : TypeId} {i : TypeInfo} (ht : P.underlying t = some (.slice e)) (hi : P.info? e = some i) (hs : i.size = 1) (g n k c : Nat) (hk : 0 < k) (hc : n + k ≤ c) :
    ∀ w', (Instr.slice t (.slice (some ⟨g, 0, none⟩) (n + k) c) (some (.int .i64 (n : Int))) none none).run P w' = .ok (.slice (some ⟨g, n, none⟩) k (c - n)) w' := by
  intro w'
  have ht' : P.underlying t = some (.slice (P.elem t)) := by rw [elem_of ht]; exact ht
  rw [run_slice_l (P := P) w' t _ (n + k) c ht' .i64 _ (by omega) (by omega), elem_of ht, size_of w' hi hs]
  simp [sliced, addr_add, Result.andThen_ok]
  omega

theorem vByte_int (x : Int) (k : Nat) : ((vByte x k).toNat : Int) = x / 2 ^ (8 * k) % 256 := by
  unfold vByte
  rw [UInt8.toNat_ofNat']
  have h0 : 0 ≤ x / 2 ^ (8 * k) % 256 := Int.emod_nonneg _ (by omega)
  have h1 : x / 2 ^ (8 * k) % 256 < 256 := Int.emod_lt_of_pos _ (by omega)
  rw [Nat.mod_eq_of_lt (by omega)]
  omega
theorem u8_add (a b : UInt8) : ((a + b).toNat : Int) = ((a.toNat : Int) + (b.toNat : Int)) % 256 := by
  rw [UInt8.toNat_add]
  simp
theorem set_at (l : List UInt8) (zs tail : List Value) (j : Nat) (v : Value) (hj : j < zs.length) : (byteCells l ++ (zs ++ tail)).set (l.length + j) v = byteCells l ++ (zs.set j v ++ tail) := by
  rw [List.set_append_right _ _ (by rw [byteCells_length]; omega), byteCells_length, Nat.add_sub_cancel_left, List.set_append_left _ _ hj]
theorem set_at0 (l : List UInt8) (zs tail : List Value) (v : Value) (hj : 0 < zs.length) : (byteCells l ++ (zs ++ tail)).set l.length v = byteCells l ++ (zs.set 0 v ++ tail) := set_at l zs tail 0 v hj
theorem take_at (l : List UInt8) (zs tail : List Value) (k : Nat) (hk : zs.length = k) : (byteCells l ++ (zs ++ tail)).take (l.length + k) = byteCells l ++ zs := by
  rw [← List.append_assoc]
  exact List.take_left' (by rw [List.length_append, byteCells_length, hk])
theorem own_of_blk {w : World} {g : Nat} {e : TypeId} {cs : Array Value} (h : Blk w g e cs) {base n c : Nat} {xs : List Value} (hb : base ≤ g) (hn : n ≤ c) (hc : c ≤ maxLen) (hs : cs.size = c) (hx : cs.toList.take n = xs) :
    w.ownsRow base e 1 (.slice (some ⟨g, 0, none⟩) n c) n xs := by
  refine ⟨?_, .inr ⟨g, c, cs, rfl, hb, h, hn, hc, by rw [hs]; omega, by rw [Nat.mul_one]; exact hx⟩⟩
  rw [← hx, List.length_take, Array.length_toList]
  omega

/-- What bytes of the callee's own, and an error, are handed back as. -/
def RetBE (w : World) (l : List UInt8) (n : Int) (e : Ending) (w' : World) : Prop :=
  ∃ A c, e = .returned (.tuple #[.slice A l.length c, .int .i64 n]) ∧ w'.ownsRow w.heap.size 5 1 (.slice A l.length c) l.length (byteCells l) ∧ Below w.heap.size w w'

theorem put_no {A : Option Addr} {n c : Nat} {x : Int} {w : World} (hx : -9223372036854775808 ≤ x ∧ x ≤ 9223372036854775807) (h : vSize x = 0) :
    Calls Try.prog 89 #[.slice A n c, .int .i64 x] w (RetBE w [] 10) := by
  have sz := fun W => size_any (w := W) hx
  rw [h] at sz
  go_enter Try.func89, Try.ntmps89
  go_wp2_with fail
  refine (sz _).mono ?_
  rintro e w1 ⟨rfl, rfl⟩
  go_wp2
  go_ret2
  exact ⟨none, 0, rfl, World.ownsRow_nil _ _ _ _, Below.refl _ _⟩

set_option maxRecDepth 100000 in
theorem put_1 {lo up : Nat} {A : Option Addr} {n c : Nat} {l : List UInt8} {x : Int} {w : World} (hr : Sl w lo up 1 A n c (byteCells l)) (hup : up ≤ w.heap.size) (hn : n ≤ 140737488355000)
    (hx : -9223372036854775808 ≤ x ∧ x ≤ 9223372036854775807) (h : vSize x = 1) : Calls Try.prog 89 #[.slice A n c, .int .i64 x] w (RetBE w (l ++ vBytes x) 0) := by
  have sz := fun W => size_any (w := W) hx
  rw [h] at sz
  have hl : n = l.length := by have := hr.len; rw [byteCells_length] at this; omega
  subst hl
  obtain ⟨i0, hi0, hz0, hz1, hz2⟩ := info_parts info5
  have hb0 : vBytes x = [vByte x 0] := by unfold vBytes; rw [h]; rfl
  have Hs := Lib.hid sz
  clear sz
  go_enter Try.func89, Try.ntmps89
  go_wp2_with fail
  refine (Hs.out _).mono ?_
  rintro e w1 ⟨rfl, rfl⟩
  go_wp2_with fail
  refine (clone_any hr hup (by omega)).mono ?_
  rintro e w2 ⟨A2, c2, rfl, hown, hb2⟩
  obtain ⟨g, c3, w3, cur, tail, hrun, hblk, hcur, hc3, hcm, hcs, hg, hgr⟩ := run_append_zeros_own (P := Try.prog) w2 w1.heap.size 23 3 23 5 i0 (.int .u8 0) .i64 .i64 Try.underlying23 Try.underlying3 hi0 hz0 hz1 hz2 rfl rfl _ _ _ hown 1 (by omega) (by omega) hb2.size
  have kz0 : w3.cell? ⟨g, l.length, none⟩ = some (.int .u8 0) := by rw [hblk.rules.1, ← Array.getElem?_toList, hcur]; simp [byteCells]
  have ke := hblk.rules.2
  have hcut := cut_l_at Try.underlying23 hi0 hz1 g l.length 1 c3 (by omega) (by omega)
  have hb3 := (Below.refl w1.heap.size w2).grown hgr hb2.size (fun k hk => (hown.lt k hk).1)
  go_wp2_with (at_builtin; refine Lib.wpList_append_run _ rfl _ _ _ _ rfl _ _ rfl rfl _ _ hrun ?_)
  go_rounds 10
  go_rounds 5
  go_ret2
  refine ⟨some ⟨g, 0, none⟩, c3, (by rw [hb0]; simp), ?_, ?_⟩
  · rw [List.length_append, show (vBytes x).length = 1 from by rw [hb0]; rfl]
    refine own_of_blk (by exact (hblk.set_ (l.length) _)) hg hc3 hcm (by simp [hcs]) ?_
    simp only [Array.toList_setIfInBounds, hcur, List.append_assoc, List.replicate]
    simp only [set_at0, set_at, List.set_cons_zero, List.set_cons_succ, List.length_cons, List.length_nil, Nat.reduceAdd, Nat.reduceLT, Nat.lt_add_one, Nat.zero_lt_succ]
    rw [take_at _ _ _ _ (by rfl), hb0]
    rw [byteCells_append]
    congr 1
    simp [byteCells, vByte_int, u8_add]
    try omega
  · exact ((hb2.trans hb3).setCell hg _)

set_option maxRecDepth 100000 in
theorem put_2 {lo up : Nat} {A : Option Addr} {n c : Nat} {l : List UInt8} {x : Int} {w : World} (hr : Sl w lo up 1 A n c (byteCells l)) (hup : up ≤ w.heap.size) (hn : n ≤ 140737488355000)
    (hx : -9223372036854775808 ≤ x ∧ x ≤ 9223372036854775807) (h : vSize x = 2) : Calls Try.prog 89 #[.slice A n c, .int .i64 x] w (RetBE w (l ++ vBytes x) 0) := by
  have sz := fun W => size_any (w := W) hx
  rw [h] at sz
  have hl : n = l.length := by have := hr.len; rw [byteCells_length] at this; omega
  subst hl
  obtain ⟨i0, hi0, hz0, hz1, hz2⟩ := info_parts info5
  have hb0 : vBytes x = [vByte x 1 + 64, vByte x 0] := by unfold vBytes; rw [h]; rfl
  have Hs := Lib.hid sz
  clear sz
  go_enter Try.func89, Try.ntmps89
  go_wp2_with fail
  refine (Hs.out _).mono ?_
  rintro e w1 ⟨rfl, rfl⟩
  go_wp2_with fail
  refine (clone_any hr hup (by omega)).mono ?_
  rintro e w2 ⟨A2, c2, rfl, hown, hb2⟩
  obtain ⟨g, c3, w3, cur, tail, hrun, hblk, hcur, hc3, hcm, hcs, hg, hgr⟩ := run_append_zeros_own (P := Try.prog) w2 w1.heap.size 23 3 23 5 i0 (.int .u8 0) .i64 .i64 Try.underlying23 Try.underlying3 hi0 hz0 hz1 hz2 rfl rfl _ _ _ hown 2 (by omega) (by omega) hb2.size
  have kz0 : w3.cell? ⟨g, l.length, none⟩ = some (.int .u8 0) := by rw [hblk.rules.1, ← Array.getElem?_toList, hcur]; simp [byteCells]
  have kz1 : w3.cell? ⟨g, l.length + 1, none⟩ = some (.int .u8 0) := by rw [hblk.rules.1, ← Array.getElem?_toList, hcur]; simp [byteCells]
  have ke := hblk.rules.2
  have hcut := cut_l_at Try.underlying23 hi0 hz1 g l.length 2 c3 (by omega) (by omega)
  have hb3 := (Below.refl w1.heap.size w2).grown hgr hb2.size (fun k hk => (hown.lt k hk).1)
  go_wp2_with (at_builtin; refine Lib.wpList_append_run _ rfl _ _ _ _ rfl _ _ rfl rfl _ _ hrun ?_)
  go_rounds 10
  go_rounds 5
  go_ret2
  refine ⟨some ⟨g, 0, none⟩, c3, (by rw [hb0]; simp), ?_, ?_⟩
  · rw [List.length_append, show (vBytes x).length = 2 from by rw [hb0]; rfl]
    refine own_of_blk (by exact (((hblk.set_ (l.length) _).set_ (l.length + 1) _).set_ l.length _)) hg hc3 hcm (by simp [hcs]) ?_
    simp only [Array.toList_setIfInBounds, hcur, List.append_assoc, List.replicate]
    simp only [set_at0, set_at, List.set_cons_zero, List.set_cons_succ, List.length_cons, List.length_nil, Nat.reduceAdd, Nat.reduceLT, Nat.lt_add_one, Nat.zero_lt_succ]
    rw [take_at _ _ _ _ (by rfl), hb0]
    rw [byteCells_append]
    congr 1
    simp [byteCells, vByte_int, u8_add]
    try omega
  · exact ((((hb2.trans hb3).setCell hg _).setCell hg _).setCell hg _)

set_option maxHeartbeats 4000000 in
set_option maxRecDepth 100000 in
theorem put_4 {lo up : Nat} {A : Option Addr} {n c : Nat} {l : List UInt8} {x : Int} {w : World} (hr : Sl w lo up 1 A n c (byteCells l)) (hup : up ≤ w.heap.size) (hn : n ≤ 140737488355000)
    (hx : -9223372036854775808 ≤ x ∧ x ≤ 9223372036854775807) (h : vSize x = 4) : Calls Try.prog 89 #[.slice A n c, .int .i64 x] w (RetBE w (l ++ vBytes x) 0) := by
  have sz := fun W => size_any (w := W) hx
  rw [h] at sz
  have hl : n = l.length := by have := hr.len; rw [byteCells_length] at this; omega
  subst hl
  obtain ⟨i0, hi0, hz0, hz1, hz2⟩ := info_parts info5
  have hb0 : vBytes x = [vByte x 3 + 128, vByte x 2, vByte x 1, vByte x 0] := by unfold vBytes; rw [h]; rfl
  have Hs := Lib.hid sz
  clear sz
  go_enter Try.func89, Try.ntmps89
  go_wp2_with fail
  refine (Hs.out _).mono ?_
  rintro e w1 ⟨rfl, rfl⟩
  go_wp2_with fail
  refine (clone_any hr hup (by omega)).mono ?_
  rintro e w2 ⟨A2, c2, rfl, hown, hb2⟩
  obtain ⟨g, c3, w3, cur, tail, hrun, hblk, hcur, hc3, hcm, hcs, hg, hgr⟩ := run_append_zeros_own (P := Try.prog) w2 w1.heap.size 23 3 23 5 i0 (.int .u8 0) .i64 .i64 Try.underlying23 Try.underlying3 hi0 hz0 hz1 hz2 rfl rfl _ _ _ hown 4 (by omega) (by omega) hb2.size
  have kz0 : w3.cell? ⟨g, l.length, none⟩ = some (.int .u8 0) := by rw [hblk.rules.1, ← Array.getElem?_toList, hcur]; simp [byteCells]
  have kz1 : w3.cell? ⟨g, l.length + 1, none⟩ = some (.int .u8 0) := by rw [hblk.rules.1, ← Array.getElem?_toList, hcur]; simp [byteCells]
  have kz2 : w3.cell? ⟨g, l.length + 2, none⟩ = some (.int .u8 0) := by rw [hblk.rules.1, ← Array.getElem?_toList, hcur]; simp [byteCells]
  have kz3 : w3.cell? ⟨g, l.length + 3, none⟩ = some (.int .u8 0) := by rw [hblk.rules.1, ← Array.getElem?_toList, hcur]; simp [byteCells]
  have ke := hblk.rules.2
  have hcut := cut_l_at Try.underlying23 hi0 hz1 g l.length 4 c3 (by omega) (by omega)
  have hb3 := (Below.refl w1.heap.size w2).grown hgr hb2.size (fun k hk => (hown.lt k hk).1)
  go_wp2_with (at_builtin; refine Lib.wpList_append_run _ rfl _ _ _ _ rfl _ _ rfl rfl _ _ hrun ?_)
  go_rounds 10
  go_rounds 5
  go_ret2
  refine ⟨some ⟨g, 0, none⟩, c3, (by rw [hb0]; simp), ?_, ?_⟩
  · rw [List.length_append, show (vBytes x).length = 4 from by rw [hb0]; rfl]
    refine own_of_blk (by exact ((((((hblk.set_ (l.length) _).set_ (l.length + 1) _).set_ (l.length + 2) _).set_ (l.length + 3) _).set_ l.length _).set_ l.length _)) hg hc3 hcm (by simp [hcs]) ?_
    simp only [Array.toList_setIfInBounds, hcur, List.append_assoc, List.replicate]
    simp only [set_at0, set_at, List.set_cons_zero, List.set_cons_succ, List.length_cons, List.length_nil, Nat.reduceAdd, Nat.reduceLT, Nat.lt_add_one, Nat.zero_lt_succ]
    rw [take_at _ _ _ _ (by rfl), hb0]
    rw [byteCells_append]
    congr 1
    simp [byteCells, vByte_int, u8_add]
    try omega
  · exact (((((((hb2.trans hb3).setCell hg _).setCell hg _).setCell hg _).setCell hg _).setCell hg _).setCell hg _)

theorem vSize_cases (x : Int) : vSize x = 0 ∨ vSize x = 1 ∨ vSize x = 2 ∨ vSize x = 4 ∨ vSize x = 8 := by
  unfold vSize
  split
  · simp
  split
  · simp
  split
  · simp
  split <;> simp

/-- Put. -/
def vPut (l : List UInt8) (x : Int) : List UInt8 × Int := if vSize x = 0 then ([], 10) else (l ++ vBytes x, 0)

end

/- The walks of the document's Bytes and Put. -/
section
open Go.RowKit
set_option linter.unusedVariables false
set_option linter.unusedSimpArgs false
attribute [local go_sem ↓] Go.wp_at_zero Go.wp_at_succ

/-- The first m of s bytes of a number, without the mark. -/
def vRaw (x : Int) (s m : Nat) : List UInt8 := (List.range m).map fun t => vByte x (s - 1 - t)
theorem vRaw_length (x : Int) (s m : Nat) : (vRaw x s m).length = m := by simp [vRaw]
theorem vRaw_succ (x : Int) (s m : Nat) : vRaw x s (m + 1) = vRaw x s m ++ [vByte x (s - 1 - m)] := by simp [vRaw, List.range_succ]

theorem blk_of_own {w : World} {base n c : Nat} {e : TypeId} {A : Option Addr} {xs : List Value} (h : w.ownsRow base e 1 (.slice A n c) n xs) (hn : 0 < n) :
    ∃ g cur, A = some ⟨g, 0, none⟩ ∧ Blk w g e cur ∧ n ≤ c ∧ c ≤ maxLen ∧ cur.size = c ∧ base ≤ g ∧ cur.toList.take n = xs := by
  rcases h.2 with ⟨_, h0⟩ | ⟨g, cap, cur, hv, hbg, hh, hnc, hcm, hs, ht⟩
  · omega
  · injection hv with hA _ hc
    subst hA hc
    exact ⟨g, cur, rfl, hh, hnc, hcm, by omega, hbg, by simpa using ht⟩

set_option maxHeartbeats 4000000 in
set_option maxRecDepth 100000 in
theorem rbytes_any {x : Int} {w : World} (h0 : vSize x ≠ 0) : Calls Try.prog 96 #[.int .i64 x] w (RetB w (vBytes x)) := by
  obtain ⟨i0, hi0, hz0, hz1, hz2⟩ := info_parts info5
  have hc := vSize_cases x
  have hs8 : 1 ≤ vSize x ∧ vSize x ≤ 8 := by omega
  have hcase : (vSize x = 1 ∧ vBytes x = [vByte x 0]) ∨ (vSize x = 2 ∧ vBytes x = [vByte x 1 + 64, vByte x 0]) ∨ (vSize x = 4 ∧ vBytes x = [vByte x 3 + 128, vByte x 2, vByte x 1, vByte x 0]) ∨ (vSize x = 8 ∧ vBytes x = [vByte x 7 + 192, vByte x 6, vByte x 5, vByte x 4, vByte x 3, vByte x 2, vByte x 1, vByte x 0]) := by
    unfold vBytes
    rcases hc with h | h | h | h | h <;> rw [h] <;> simp
    omega
  have sz := fun W => rsize_any (x := x) (w := W)
  generalize vBytes x = bs at *
  generalize vSize x = s at *
  have Hs := Lib.hid sz
  have Hcase := Lib.hid hcase
  clear sz hcase hc h0
  obtain ⟨hs1, hs2⟩ := hs8
  go_enter Try.func96, Try.ntmps96
  go_wp2_with fail
  refine (Hs.out _).mono ?_
  rintro e w1 ⟨rfl, rfl⟩
  go_wp2_with fail
  go_loopg [4, 5] s (fun gh s4 s5 wr => ∃ (m c : Nat) (A : Option Addr) (j : Int), gh = s - m ∧ j + 1 + m = s ∧ m ≤ s ∧ s4 = .slice A m c ∧ s5 = .int .i64 j ∧ wr.ownsRow w1.heap.size 5 1 (.slice A m c) m (byteCells (vRaw x s m)) ∧ Below w1.heap.size w1 wr)
  case atStart =>
    exact ⟨0, 0, none, (s : Int) - 1, by omega, by omega, by omega, rfl, rfl, World.ownsRow_nil _ _ _ _, Below.refl _ _⟩
  case round =>
    obtain ⟨m, c, A, j, hg, hj, hm, rfl, rfl, hown, bb⟩ := hrel
    have hjc : j = -1 ∨ j = 0 ∨ j = 1 ∨ j = 2 ∨ j = 3 ∨ j = 4 ∨ j = 5 ∨ j = 6 ∨ j = 7 := by omega
    have bs1 := bb.size
    rcases hjc with h | h
    · subst h
      obtain rfl : m = s := by omega
      obtain ⟨g, cur, rfl, hblk, hc3, hcm, hcs, hbg, ht⟩ := blk_of_own hown hs1
      have ke := hblk.rules.2
      rcases Hcase.out with ⟨rfl, rfl⟩ | ⟨rfl, rfl⟩ | ⟨rfl, rfl⟩ | ⟨rfl, rfl⟩
      · go_wp2
        go_ret
        exact ⟨_, c, rfl, hown, bb⟩
      · have h00 : (cur.toList.take 2)[0]? = some (.int .u8 ((vByte x 1).toNat : Int)) := by rw [ht]; rfl
        rw [List.getElem?_take_of_lt (by omega), Array.getElem?_toList, ← hblk.rules.1] at h00
        have hlt := (vByte x 1).toNat_lt
        clear Hcase Hs
        go_wp2
        go_ret
        refine ⟨_, c, rfl, own_of_blk (hblk.set_ 0 _) hbg hc3 hcm (by simp [hcs]) ?_, bb.setCell hbg _⟩
        show List.take 2 _ = _
        rw [Array.toList_setIfInBounds, List.take_set, ht]
        simp [vRaw, byteCells, u8_add, List.range_succ]
      · have h00 : (cur.toList.take 4)[0]? = some (.int .u8 ((vByte x 3).toNat : Int)) := by rw [ht]; rfl
        rw [List.getElem?_take_of_lt (by omega), Array.getElem?_toList, ← hblk.rules.1] at h00
        have hlt := (vByte x 3).toNat_lt
        clear Hcase Hs
        go_wp2
        go_ret
        refine ⟨_, c, rfl, own_of_blk (hblk.set_ 0 _) hbg hc3 hcm (by simp [hcs]) ?_, bb.setCell hbg _⟩
        show List.take 4 _ = _
        rw [Array.toList_setIfInBounds, List.take_set, ht]
        simp [vRaw, byteCells, u8_add, List.range_succ]
      · have h00 : (cur.toList.take 8)[0]? = some (.int .u8 ((vByte x 7).toNat : Int)) := by rw [ht]; rfl
        rw [List.getElem?_take_of_lt (by omega), Array.getElem?_toList, ← hblk.rules.1] at h00
        have hlt := (vByte x 7).toNat_lt
        clear Hcase Hs
        go_wp2
        go_ret
        refine ⟨_, c, rfl, own_of_blk (hblk.set_ 0 _) hbg hc3 hcm (by simp [hcs]) ?_, bb.setCell hbg _⟩
        show List.take 8 _ = _
        rw [Array.toList_setIfInBounds, List.take_set, ht]
        simp [vRaw, byteCells, u8_add, List.range_succ]
    · have hms : m < s := by omega
      have hsj : vByte x (s - 1 - m) = vByte x j.toNat := by congr 1; omega
      have Hsj := Lib.hid hsj
      clear hsj
      rcases h with h | h | h | h | h | h | h | h
      all_goals
        subst h
        go_wp2_with (at_builtin; refine wpList_append_sl _ rfl (.tmp 14) (.tmp 21) _ rfl w1.heap.size 5 i0 _ 1 1 Try.underlying23 hi0 hz0 hz1 hz2 rfl (by omega) (.slice A m c) m _ rfl (own_alloc hown _) wr.heap.size (wr.heap.size + 1) _ 1 1 _ rfl (Sl.new wr 5 _ 1 1 1 _ rfl (by omega) rfl rfl) (by intro u hu; simp at hu; subst hu; rfl) (m + 1) rfl _ rfl (by unfold maxLen; omega) (by omega) (by simp; omega) ?_; intro A' c' w' hown' hgr; have hb := grown_below (B := w1.heap.size) hgr (by simp; omega) (fun k hk => (hown.lt k hk).1))
        go_roundg (s - (m + 1))
        case measure => omega
        case rel =>
          refine ⟨m + 1, c', A', _, rfl, ?_, by omega, rfl, rfl, ?_, (bb.alloc bs1 _).trans hb⟩
          · omega
          · rw [vRaw_succ, byteCells_append, Hsj.out]
            have hq := hown'
            simp [byteCells, vByte_int] at hq ⊢
            exact hq

theorem vBytes_le (x : Int) : (vBytes x).length ≤ 8 := by
  unfold vBytes
  split <;> simp
end

/- The walk of varint.Put, of eight bytes. -/
section
open Go.RowKit
set_option linter.unusedVariables false
set_option linter.unusedSimpArgs false
attribute [local go_sem ↓] Go.wp_at_zero Go.wp_at_succ

set_option maxHeartbeats 4000000 in
set_option maxRecDepth 100000 in
theorem put_8 {lo up : Nat} {A : Option Addr} {n c : Nat} {l : List UInt8} {x : Int} {w : World} (hr : Sl w lo up 1 A n c (byteCells l)) (hup : up ≤ w.heap.size) (hn : n ≤ 140737488355000)
    (hx : -9223372036854775808 ≤ x ∧ x ≤ 9223372036854775807) (h : vSize x = 8) : Calls Try.prog 89 #[.slice A n c, .int .i64 x] w (RetBE w (l ++ vBytes x) 0) := by
  have sz := fun W => size_any (w := W) hx
  rw [h] at sz
  have hl : n = l.length := by have := hr.len; rw [byteCells_length] at this; omega
  subst hl
  obtain ⟨i0, hi0, hz0, hz1, hz2⟩ := info_parts info5
  have hb0 : vBytes x = [vByte x 7 + 192, vByte x 6, vByte x 5, vByte x 4, vByte x 3, vByte x 2, vByte x 1, vByte x 0] := by unfold vBytes; rw [h]; rfl
  have Hs := Lib.hid sz
  clear sz
  go_enter Try.func89, Try.ntmps89
  go_wp2_with fail
  refine (Hs.out _).mono ?_
  rintro e w1 ⟨rfl, rfl⟩
  go_wp2_with fail
  refine (clone_any hr hup (by omega)).mono ?_
  rintro e w2 ⟨A2, c2, rfl, hown, hb2⟩
  obtain ⟨g, c3, w3, cur, tail, hrun, hblk, hcur, hc3, hcm, hcs, hg, hgr⟩ := run_append_zeros_own (P := Try.prog) w2 w1.heap.size 23 3 23 5 i0 (.int .u8 0) .i64 .i64 Try.underlying23 Try.underlying3 hi0 hz0 hz1 hz2 rfl rfl _ _ _ hown 8 (by omega) (by omega) hb2.size
  have hcut := cut_l_at Try.underlying23 hi0 hz1 g l.length 8 c3 (by omega) (by omega)
  have hb3 := (Below.refl w1.heap.size w2).grown hgr hb2.size (fun k hk => (hown.lt k hk).1)
  go_wp2_with (at_builtin; refine Lib.wpList_append_run _ rfl _ _ _ _ rfl _ _ rfl rfl _ _ hrun ?_)
  clear hrun
  have hcs2 : cur.toList = byteCells l ++ (byteCells (vRaw x 8 0) ++ (List.replicate (8 - 0) (.int .u8 0) ++ tail)) := by rw [hcur]; simp [vRaw, byteCells]
  have HA := Lib.hid hgr
  clear hcur hgr
  have z3 := hb2.size
  have z4 := hb3.size
  go_loopg [25] 8 (fun gh s25 wr => ∃ (k : Nat) (cs : Array Value), gh = 8 - k ∧ k ≤ 8 ∧ s25 = .int .i64 k ∧ Blk wr g 5 cs ∧ cs.toList = byteCells l ++ (byteCells (vRaw x 8 k) ++ (List.replicate (8 - k) (.int .u8 0) ++ tail)) ∧ cs.size = c3 ∧ Below w1.heap.size w1 wr)
  case atStart => exact ⟨0, cur, rfl, by omega, rfl, hblk, hcs2, hcs, hb2.trans hb3⟩
  case round =>
    obtain ⟨k, cs, hg', hk, rfl, hb, hl, hsz, bb⟩ := hrel
    have ke := hb.rules.2
    clear hblk hcs2 hcs
    by_cases h8 : k = 8
    · subst h8
      have c0 : wr.cell? ⟨g, l.length, none⟩ = some (.int .u8 ((vByte x 7).toNat : Int)) := by
        rw [hb.rules.1, ← Array.getElem?_toList, hl, List.getElem?_append_right (by simp [byteCells]), byteCells_length, show l.length - l.length = 0 from by omega]
        rfl
      have hlt := (vByte x 7).toNat_lt
      go_wp2
      go_rounds 5
      go_ret2
      refine ⟨some ⟨g, 0, none⟩, c3, (by rw [hb0]; simp), ?_, ?_⟩
      · rw [List.length_append, show (vBytes x).length = 8 from by rw [hb0]; rfl]
        refine own_of_blk (by exact ((hb.set_ l.length _).set_ l.length _).set_ l.length _) hg hc3 hcm (by simp [hsz]) ?_
        simp only [Array.toList_setIfInBounds, hl]
        rw [set_at0 _ _ _ _ (by simp [vRaw, byteCells]), set_at0 _ _ _ _ (by simp [vRaw, byteCells]), set_at0 _ _ _ _ (by simp [vRaw, byteCells]), take_at _ _ _ _ (by simp [vRaw, byteCells]), hb0, byteCells_append]
        congr 1
        all_goals simp [vRaw, byteCells, u8_add, List.range_succ]
      · exact ((bb.setCell hg _).setCell hg _).setCell hg _
    · have hz : wr.cell? ⟨g, l.length + k, none⟩ = some (.int .u8 0) := by
        rw [hb.rules.1, ← Array.getElem?_toList, hl, ← List.append_assoc, List.getElem?_append_right (by simp [byteCells, vRaw])]
        rw [show l.length + k - (byteCells l ++ byteCells (vRaw x 8 k)).length = 0 from by simp [byteCells, vRaw], show 8 - k = (8 - (k + 1)) + 1 from by omega, List.replicate_succ]
        rfl
      have hset : ∀ v, (cs.setIfInBounds (l.length + k) v).toList = byteCells l ++ (byteCells (vRaw x 8 k) ++ (v :: (List.replicate (8 - (k + 1)) (.int .u8 0) ++ tail))) := by
        intro v
        rw [Array.toList_setIfInBounds, hl, show 8 - k = (8 - (k + 1)) + 1 from by omega, List.replicate_succ, ← List.append_assoc, List.set_append_right _ _ (by simp [byteCells, vRaw]), List.append_assoc]
        simp [byteCells, vRaw]
      have hsj : vByte x (8 - 1 - k) = vByte x (7 - k) := rfl
      have hk7 : k = 0 ∨ k = 1 ∨ k = 2 ∨ k = 3 ∨ k = 4 ∨ k = 5 ∨ k = 6 ∨ k = 7 := by omega
      obtain ⟨kk, hkk⟩ : ∃ kk, kk = k := ⟨_, rfl⟩
      rcases hk7 with h | h | h | h | h | h | h | h
      all_goals
        subst h
        try simp only [Nat.add_zero] at hz
        go_wp2
        go_roundg (8 - (kk + 1))
        case measure => omega
        case rel =>
          refine ⟨_, _, (by rw [hkk]), ?_, rfl, hb.set_ _ _, ?_, by simp [hsz], bb.setCell hg _⟩
          · decide
          · first | rw [hset] | (have := hset; simp only [Nat.add_zero] at this; rw [this])
            simp [vRaw, List.range_succ, byteCells, vByte_int]

theorem put_any {lo up : Nat} {A : Option Addr} {n c : Nat} {l : List UInt8} {x : Int} {w : World} (hr : Sl w lo up 1 A n c (byteCells l)) (hup : up ≤ w.heap.size) (hn : n ≤ 140737488355000)
    (hx : -9223372036854775808 ≤ x ∧ x ≤ 9223372036854775807) : Calls Try.prog 89 #[.slice A n c, .int .i64 x] w (RetBE w (vPut l x).1 (vPut l x).2) := by
  unfold vPut
  rcases vSize_cases x with h | h | h | h | h
  · rw [if_pos h]; exact put_no hx h
  · rw [if_neg (by omega)]; exact put_1 hr hup hn hx h
  · rw [if_neg (by omega)]; exact put_2 hr hup hn hx h
  · rw [if_neg (by omega)]; exact put_4 hr hup hn hx h
  · rw [if_neg (by omega)]; exact put_8 hr hup hn hx h

end

/- The walks of varint.Join and the document's Join. -/
section
open Go.RowKit
set_option linter.unusedVariables false
set_option linter.unusedSimpArgs false
attribute [local go_sem ↓] Go.wp_at_zero Go.wp_at_succ

/-- The bytes of numbers, one behind the other. -/
def vCat (l : List Int) : List UInt8 := l.flatMap vBytes
/-- Join. -/
def vJoin (l : List Int) : List UInt8 × Int := if ∀ x ∈ l, vSize x ≠ 0 then (vCat l, 0) else ([], 10)

theorem vCat_le (l : List Int) : (vCat l).length ≤ 8 * l.length := by
  induction l with
  | nil => simp [vCat]
  | cons x l ih =>
    have := vBytes_le x
    simp only [vCat, List.flatMap_cons, List.length_append, List.length_cons] at ih ⊢
    omega
theorem vCat_take {l : List Int} {i : Nat} (h : i < l.length) : vCat (l.take (i + 1)) = vCat (l.take i) ++ vBytes l[i] := by
  rw [List.take_succ_eq_append_getElem h, vCat, List.flatMap_append]
  simp [vCat]

set_option maxRecDepth 100000 in
theorem join_any {lo up : Nat} {A : Option Addr} {n c : Nat} {l : List Int} {w : World} (hr : Sl w lo up 1 A n c (intCells l)) (hup : up ≤ w.heap.size) (hn : n ≤ 1000000)
    (hl : ∀ x ∈ l, -9223372036854775808 ≤ x ∧ x ≤ 9223372036854775807) : Calls Try.prog 55 #[.slice A n c] w (RetBE w (vJoin l).1 (vJoin l).2) := by
  have hl0 : n = l.length := by have := hr.len; rw [intCells_length] at this; omega
  subst hl0
  have HR := Lib.hid hr
  have HL := Lib.hid hl
  clear hr hl
  go_enter Try.func55, Try.ntmps55
  go_wp2_with fail
  go_loopg [2, 3, 8] l.length (fun gh s2 s3 s8 wr => ∃ (i c : Nat) (A : Option Addr), gh = l.length - i ∧ i ≤ l.length ∧ s2 = .slice A (vCat (l.take i)).length c ∧ s3 = .int .i64 0 ∧ s8 = .int .i64 i ∧ Hid (∀ x ∈ l.take i, vSize x ≠ 0) ∧
    wr.ownsRow w.heap.size 5 1 (.slice A (vCat (l.take i)).length c) (vCat (l.take i)).length (byteCells (vCat (l.take i))) ∧ Below w.heap.size w wr)
  case atStart => exact ⟨0, 0, none, by omega, by omega, rfl, rfl, rfl, Lib.hid (by simp), World.ownsRow_nil _ _ _ _, Below.refl _ _⟩
  case round =>
    obtain ⟨i, c2, A2, hg, hi, rfl, rfl, rfl, hall, hown, bb⟩ := hrel
    have bs1 := bb.size
    by_cases h : i < l.length
    · obtain ⟨g, o, rfl, hc⟩ := sli_cell (HR.out.below bb hup) (by omega)
      have k1 := hc i h
      have a1 := addr_add g o i
      have hx := HL.out l[i] (List.getElem_mem h)
      have hle := vCat_le (l.take i)
      have hlt : (l.take i).length = i := by rw [List.length_take]; omega
      have hP := fun W lo up h1 h2 => put_any (lo := lo) (up := up) (A := A2) (n := (vCat (l.take i)).length) (c := c2) (l := vCat (l.take i)) (x := l[i]) (w := W) h1 h2 (by omega) hx
      have HP := Lib.hid hP
      clear hP hc
      have hlen2 : (vCat (l.take i)).length ≤ 8000000 := by omega
      clear hle hlt
      by_cases hz : vSize l[i] = 0
      · have hj : vJoin l = ([], 10) := by
          unfold vJoin
          rw [if_neg]
          intro hh
          exact hh _ (List.getElem_mem h) hz
        have hp : vPut (vCat (l.take i)) l[i] = ([], 10) := by unfold vPut; rw [if_pos hz]
        rw [hp] at HP
        rw [hj]
        generalize l[i] = x at *
        clear hall HL
        go_wp2_with fail
        refine (HP.out _ _ _ (Sl.of_own hown) (Nat.le_refl _)).mono ?_
        rintro e w2 ⟨A3, c3, rfl, hown3, hb3⟩
        go_wp2
        go_ret2
        exact ⟨none, 0, rfl, World.ownsRow_nil _ _ _ _, bb.trans (hb3.mono bs1)⟩
      · have hp : vPut (vCat (l.take i)) l[i] = (vCat (l.take (i + 1)), 0) := by unfold vPut; rw [if_neg hz, vCat_take h]
        rw [hp] at HP
        have hall2 : ∀ x ∈ l.take (i + 1), vSize x ≠ 0 := by
          rw [List.take_succ_eq_append_getElem h]
          intro x hx
          rcases List.mem_append.1 hx with h1 | h1
          · exact hall.out x h1
          · simp at h1
            rw [h1]
            exact hz
        have Hall2 := Lib.hid hall2
        clear hall2 hall hp hz
        generalize l[i] = x at *
        go_wp2_with fail
        refine (HP.out _ _ _ (Sl.of_own hown) (Nat.le_refl _)).mono ?_
        rintro e w2 ⟨A3, c3, rfl, hown3, hb3⟩
        go_wp2
        go_roundg (l.length - (i + 1))
        case measure => omega
        case rel => exact ⟨i + 1, c3, A3, rfl, by omega, rfl, rfl, by simp, Hall2, own_more hown3 bs1, bb.trans (hb3.mono bs1)⟩
    · obtain rfl : i = l.length := by omega
      have hj : vJoin l = (vCat l, 0) := by
        unfold vJoin
        rw [if_pos]
        have := hall.out
        rwa [List.take_length] at this
      rw [hj]
      rw [List.take_length] at *
      clear hall HL
      go_wp2
      go_ret2
      exact ⟨A2, c2, rfl, hown, bb⟩

set_option maxRecDepth 100000 in
theorem rjoin_any {lo up : Nat} {A : Option Addr} {n c : Nat} {l : List Int} {w : World} (hr : Sl w lo up 1 A n c (intCells l)) (hup : up ≤ w.heap.size) (hn : n ≤ 1000000) :
    Calls Try.prog 63 #[.slice A n c] w (RetBE w (vJoin l).1 (vJoin l).2) := by
  obtain ⟨i0, hi0, hz0, hz1, hz2⟩ := info_parts info5
  have hl0 : n = l.length := by have := hr.len; rw [intCells_length] at this; omega
  subst hl0
  have HR := Lib.hid hr
  clear hr
  go_enter Try.func63, Try.ntmps63
  go_wp2_with fail
  go_loopg [4, 5] l.length (fun gh s4 s5 wr => ∃ (i c : Nat) (A : Option Addr), gh = l.length - i ∧ i ≤ l.length ∧ s4 = .slice A (vCat (l.take i)).length c ∧ s5 = .int .i64 i ∧ Hid (∀ x ∈ l.take i, vSize x ≠ 0) ∧
    wr.ownsRow w.heap.size 5 1 (.slice A (vCat (l.take i)).length c) (vCat (l.take i)).length (byteCells (vCat (l.take i))) ∧ Below w.heap.size w wr)
  case atStart => exact ⟨0, 0, none, by omega, by omega, rfl, rfl, Lib.hid (by simp), World.ownsRow_nil _ _ _ _, Below.refl _ _⟩
  case round =>
    obtain ⟨i, c2, A2, hg, hi, rfl, rfl, hall, hown, bb⟩ := hrel
    have bs1 := bb.size
    by_cases h : i < l.length
    · obtain ⟨g, o, rfl, hc⟩ := sli_cell (HR.out.below bb hup) (by omega)
      have k1 := hc i h
      have a1 := addr_add g o i
      have hle := vCat_le (l.take i)
      have hlt : (l.take i).length = i := by rw [List.length_take]; omega
      have hS := fun W => rsize_any (x := l[i]) (w := W)
      have HS := Lib.hid hS
      clear hS hc
      have hlen2 : (vCat (l.take i)).length ≤ 8000000 := by omega
      clear hle hlt
      by_cases hz : vSize l[i] = 0
      · have hj : vJoin l = ([], 10) := by
          unfold vJoin
          rw [if_neg]
          intro hh
          exact hh _ (List.getElem_mem h) hz
        rw [hj]
        rw [hz] at HS
        generalize l[i] = x at *
        clear hall
        go_wp2_with fail
        refine (HS.out _).mono ?_
        rintro e w2 ⟨rfl, rfl⟩
        go_wp2
        go_ret2
        exact ⟨none, 0, rfl, World.ownsRow_nil _ _ _ _, bb⟩
      · have hall2 : ∀ x ∈ l.take (i + 1), vSize x ≠ 0 := by
          rw [List.take_succ_eq_append_getElem h]
          intro x hx
          rcases List.mem_append.1 hx with h1 | h1
          · exact hall.out x h1
          · simp at h1
            rw [h1]
            exact hz
        have Hall2 := Lib.hid hall2
        have HB := Lib.hid (fun W => rbytes_any (x := l[i]) (w := W) hz)
        have Hcat := Lib.hid (vCat_take h)
        have hbl := vBytes_le l[i]
        clear hall2 hall
        generalize vBytes l[i] = bs at *
        generalize vSize l[i] = s at *
        generalize l[i] = x at *
        generalize vCat (l.take i) = cat at *
        go_wp2_with fail
        refine (HS.out _).mono ?_
        rintro e w2 ⟨rfl, rfl⟩
        go_wp2_with fail
        refine (HB.out _).mono ?_
        rintro e w3 ⟨A3, c3, rfl, hown3, hb3⟩
        have z3 := hb3.size
        go_wp2_with (at_builtin; refine wpList_append_sl _ rfl (.tmp 18) (.tmp 23) _ rfl w.heap.size 5 i0 _ 1 1 Try.underlying23 hi0 hz0 hz1 hz2 rfl (by omega) _ cat.length _ rfl (own_below hown hb3 (Nat.le_refl _)) w2.heap.size w3.heap.size A3 bs.length c3 _ rfl (Sl.of_own hown3) (byteCells_one _) (cat.length + bs.length) rfl _ (byteCells_append cat bs).symm (by unfold maxLen; omega) (by omega) (by omega) ?_; intro A4 c4 w4 hown4 hg4)
        go_roundg (l.length - (i + 1))
        case measure => omega
        case rel => exact ⟨i + 1, c4, A4, rfl, by omega, by rw [Hcat.out, List.length_append], by simp, Hall2, by rw [Hcat.out, List.length_append]; exact hown4, (bb.trans (hb3.mono bs1)).grown hg4 (by omega) (fun k hk => (hown.lt k hk).1)⟩
    · obtain rfl : i = l.length := by omega
      have hj : vJoin l = (vCat l, 0) := by
        unfold vJoin
        rw [if_pos]
        have := hall.out
        rwa [List.take_length] at this
      rw [hj]
      rw [List.take_length] at *
      clear hall
      go_wp2
      go_ret2
      exact ⟨A2, c2, rfl, hown, bb⟩
end
end Go.Proofs.Ytfeeincglijmjaa
