/- The walk of varint.Put. -/
import Derived.Test.YtfeeincglijmjaaVA
namespace Go.Proofs.Ytfeeincglijmjaa
open Go.RowKit
set_option linter.unusedVariables false
set_option linter.unusedSimpArgs false
attribute [local go_sem ↓] Go.wp_at_zero Go.wp_at_succ

/-- Byte number k of a number, from its low end. -/
def vByte (x : Int) (k : Nat) : UInt8 := UInt8.ofNat (x / 2 ^ (8 * k) % 256).toNat
/-- A number's bytes. -/
def vBytes (x : Int) : List UInt8 :=
  match vSize x with
  | 1 => [vByte x 0]
  | 2 => [vByte x 1 + 64, vByte x 0]
  | 4 => [vByte x 3 + 128, vByte x 2, vByte x 1, vByte x 0]
  | 8 => [vByte x 7 + 192, vByte x 6, vByte x 5, vByte x 4, vByte x 3, vByte x 2, vByte x 1, vByte x 0]
  | _ => []

theorem cut_l_at {P : Program} {t e : TypeId} {i : TypeInfo} (ht : P.underlying t = some (.slice e)) (hi : P.info? e = some i) (hs : i.size = 1) (g n k c : Nat) (hk : 0 < k) (hc : n + k ≤ c) :
    ∀ w', (Instr.slice t (.slice (some ⟨g, 0, none⟩) (n + k) c) (some (.int .i64 (n : Int))) none none).run P w' = .ok (.slice (some ⟨g, n, none⟩) k (c - n)) w' := by
  intro w'
  have ht' : P.underlying t = some (.slice (P.elem t)) := by rw [elem_of ht]; exact ht
  rw [run_slice_l (P := P) w' t _ (n + k) c ht' .i64 _ (by omega) (by omega), elem_of ht, size_of w' hi hs]
  simp [sliced, addr_add, Result.andThen_ok]
  omega

theorem vByte_int (x : Int) (k : Nat) : ((vByte x k).toNat : Int) = x / 2 ^ (8 * k) % 256 := by
  unfold vByte
  rw [UInt8.toNat_ofNat']
  have h0 : 0 ≤ x / 2 ^ (8 * k) % 256 := Int.emod_nonneg _ (by omega)
  have h1 : x / 2 ^ (8 * k) % 256 < 256 := Int.emod_lt_of_pos _ (by omega)
  rw [Nat.mod_eq_of_lt (by omega)]
  omega
theorem u8_add (a b : UInt8) : ((a + b).toNat : Int) = ((a.toNat : Int) + (b.toNat : Int)) % 256 := by
  rw [UInt8.toNat_add]
  simp
theorem set_at (l : List UInt8) (zs tail : List Value) (j : Nat) (v : Value) (hj : j < zs.length) : (byteCells l ++ (zs ++ tail)).set (l.length + j) v = byteCells l ++ (zs.set j v ++ tail) := by
  rw [List.set_append_right _ _ (by rw [byteCells_length]; omega), byteCells_length, Nat.add_sub_cancel_left, List.set_append_left _ _ hj]
theorem set_at0 (l : List UInt8) (zs tail : List Value) (v : Value) (hj : 0 < zs.length) : (byteCells l ++ (zs ++ tail)).set l.length v = byteCells l ++ (zs.set 0 v ++ tail) := set_at l zs tail 0 v hj
theorem take_at (l : List UInt8) (zs tail : List Value) (k : Nat) (hk : zs.length = k) : (byteCells l ++ (zs ++ tail)).take (l.length + k) = byteCells l ++ zs := by
  rw [← List.append_assoc]
  exact List.take_left' (by rw [List.length_append, byteCells_length, hk])
theorem own_of_blk {w : World} {g : Nat} {e : TypeId} {cs : Array Value} (h : Blk w g e cs) {base n c : Nat} {xs : List Value} (hb : base ≤ g) (hn : n ≤ c) (hc : c ≤ maxLen) (hs : cs.size = c) (hx : cs.toList.take n = xs) :
    w.ownsRow base e 1 (.slice (some ⟨g, 0, none⟩) n c) n xs := by
  refine ⟨?_, .inr ⟨g, c, cs, rfl, hb, h, hn, hc, by rw [hs]; omega, by rw [Nat.mul_one]; exact hx⟩⟩
  rw [← hx, List.length_take, Array.length_toList]
  omega

/-- What bytes of the callee's own, and an error, are handed back as. -/
def RetBE (w : World) (l : List UInt8) (n : Int) (e : Ending) (w' : World) : Prop :=
  ∃ A c, e = .returned (.tuple #[.slice A l.length c, .int .i64 n]) ∧ w'.ownsRow w.heap.size 5 1 (.slice A l.length c) l.length (byteCells l) ∧ Below w.heap.size w w'

theorem put_no {A : Option Addr} {n c : Nat} {x : Int} {w : World} (hx : -9223372036854775808 ≤ x ∧ x ≤ 9223372036854775807) (h : vSize x = 0) :
    Calls Try.prog 89 #[.slice A n c, .int .i64 x] w (RetBE w [] 10) := by
  have sz := fun W => size_any (w := W) hx
  rw [h] at sz
  go_enter Try.func89, Try.ntmps89
  go_wp2_with fail
  refine (sz _).mono ?_
  rintro e w1 ⟨rfl, rfl⟩
  go_wp2
  go_ret2
  exact ⟨none, 0, rfl, World.ownsRow_nil _ _ _ _, Below.refl _ _⟩

set_option maxRecDepth 100000 in
theorem put_1 {lo up : Nat} {A : Option Addr} {n c : Nat} {l : List UInt8} {x : Int} {w : World} (hr : Sl w lo up 1 A n c (byteCells l)) (hup : up ≤ w.heap.size) (hn : n ≤ 140737488355000)
    (hx : -9223372036854775808 ≤ x ∧ x ≤ 9223372036854775807) (h : vSize x = 1) : Calls Try.prog 89 #[.slice A n c, .int .i64 x] w (RetBE w (l ++ vBytes x) 0) := by
  have sz := fun W => size_any (w := W) hx
  rw [h] at sz
  have hl : n = l.length := by have := hr.len; rw [byteCells_length] at this; omega
  subst hl
  obtain ⟨i0, hi0, hz0, hz1, hz2⟩ := info_parts info5
  have hb0 : vBytes x = [vByte x 0] := by unfold vBytes; rw [h]; rfl
  have Hs := Lib.hid sz
  clear sz
  go_enter Try.func89, Try.ntmps89
  go_wp2_with fail
  refine (Hs.out _).mono ?_
  rintro e w1 ⟨rfl, rfl⟩
  go_wp2_with fail
  refine (clone_any hr hup (by omega)).mono ?_
  rintro e w2 ⟨A2, c2, rfl, hown, hb2⟩
  obtain ⟨g, c3, w3, cur, tail, hrun, hblk, hcur, hc3, hcm, hcs, hg, hgr⟩ := run_append_zeros_own (P := Try.prog) w2 w1.heap.size 23 3 23 5 i0 (.int .u8 0) .i64 .i64 Try.underlying23 Try.underlying3 hi0 hz0 hz1 hz2 rfl rfl _ _ _ hown 1 (by omega) (by omega) hb2.size
  have kz0 : w3.cell? ⟨g, l.length, none⟩ = some (.int .u8 0) := by rw [hblk.rules.1, ← Array.getElem?_toList, hcur]; simp [byteCells]
  have ke := hblk.rules.2
  have hcut := cut_l_at Try.underlying23 hi0 hz1 g l.length 1 c3 (by omega) (by omega)
  have hb3 := (Below.refl w1.heap.size w2).grown hgr hb2.size (fun k hk => (hown.lt k hk).1)
  go_wp2_with (at_builtin; refine Lib.wpList_append_run _ rfl _ _ _ _ rfl _ _ rfl rfl _ _ hrun ?_)
  go_rounds 10
  go_rounds 5
  go_ret2
  refine ⟨some ⟨g, 0, none⟩, c3, (by rw [hb0]; simp), ?_, ?_⟩
  · rw [List.length_append, show (vBytes x).length = 1 from by rw [hb0]; rfl]
    refine own_of_blk (by exact (hblk.set_ (l.length) _)) hg hc3 hcm (by simp [hcs]) ?_
    simp only [Array.toList_setIfInBounds, hcur, List.append_assoc, List.replicate]
    simp only [set_at0, set_at, List.set_cons_zero, List.set_cons_succ, List.length_cons, List.length_nil, Nat.reduceAdd, Nat.reduceLT, Nat.lt_add_one, Nat.zero_lt_succ]
    rw [take_at _ _ _ _ (by rfl), hb0]
    rw [byteCells_append]
    congr 1
    simp [byteCells, vByte_int, u8_add]
    try omega
  · exact ((hb2.trans hb3).setCell hg _)

set_option maxRecDepth 100000 in
theorem put_2 {lo up : Nat} {A : Option Addr} {n c : Nat} {l : List UInt8} {x : Int} {w : World} (hr : Sl w lo up 1 A n c (byteCells l)) (hup : up ≤ w.heap.size) (hn : n ≤ 140737488355000)
    (hx : -9223372036854775808 ≤ x ∧ x ≤ 9223372036854775807) (h : vSize x = 2) : Calls Try.prog 89 #[.slice A n c, .int .i64 x] w (RetBE w (l ++ vBytes x) 0) := by
  have sz := fun W => size_any (w := W) hx
  rw [h] at sz
  have hl : n = l.length := by have := hr.len; rw [byteCells_length] at this; omega
  subst hl
  obtain ⟨i0, hi0, hz0, hz1, hz2⟩ := info_parts info5
  have hb0 : vBytes x = [vByte x 1 + 64, vByte x 0] := by unfold vBytes; rw [h]; rfl
  have Hs := Lib.hid sz
  clear sz
  go_enter Try.func89, Try.ntmps89
  go_wp2_with fail
  refine (Hs.out _).mono ?_
  rintro e w1 ⟨rfl, rfl⟩
  go_wp2_with fail
  refine (clone_any hr hup (by omega)).mono ?_
  rintro e w2 ⟨A2, c2, rfl, hown, hb2⟩
  obtain ⟨g, c3, w3, cur, tail, hrun, hblk, hcur, hc3, hcm, hcs, hg, hgr⟩ := run_append_zeros_own (P := Try.prog) w2 w1.heap.size 23 3 23 5 i0 (.int .u8 0) .i64 .i64 Try.underlying23 Try.underlying3 hi0 hz0 hz1 hz2 rfl rfl _ _ _ hown 2 (by omega) (by omega) hb2.size
  have kz0 : w3.cell? ⟨g, l.length, none⟩ = some (.int .u8 0) := by rw [hblk.rules.1, ← Array.getElem?_toList, hcur]; simp [byteCells]
  have kz1 : w3.cell? ⟨g, l.length + 1, none⟩ = some (.int .u8 0) := by rw [hblk.rules.1, ← Array.getElem?_toList, hcur]; simp [byteCells]
  have ke := hblk.rules.2
  have hcut := cut_l_at Try.underlying23 hi0 hz1 g l.length 2 c3 (by omega) (by omega)
  have hb3 := (Below.refl w1.heap.size w2).grown hgr hb2.size (fun k hk => (hown.lt k hk).1)
  go_wp2_with (at_builtin; refine Lib.wpList_append_run _ rfl _ _ _ _ rfl _ _ rfl rfl _ _ hrun ?_)
  go_rounds 10
  go_rounds 5
  go_ret2
  refine ⟨some ⟨g, 0, none⟩, c3, (by rw [hb0]; simp), ?_, ?_⟩
  · rw [List.length_append, show (vBytes x).length = 2 from by rw [hb0]; rfl]
    refine own_of_blk (by exact (((hblk.set_ (l.length) _).set_ (l.length + 1) _).set_ l.length _)) hg hc3 hcm (by simp [hcs]) ?_
    simp only [Array.toList_setIfInBounds, hcur, List.append_assoc, List.replicate]
    simp only [set_at0, set_at, List.set_cons_zero, List.set_cons_succ, List.length_cons, List.length_nil, Nat.reduceAdd, Nat.reduceLT, Nat.lt_add_one, Nat.zero_lt_succ]
    rw [take_at _ _ _ _ (by rfl), hb0]
    rw [byteCells_append]
    congr 1
    simp [byteCells, vByte_int, u8_add]
    try omega
  · exact ((((hb2.trans hb3).setCell hg _).setCell hg _).setCell hg _)

set_option maxHeartbeats 4000000 in
set_option maxRecDepth 100000 in
theorem put_4 {lo up : Nat} {A : Option Addr} {n c : Nat} {l : List UInt8} {x : Int} {w : World} (hr : Sl w lo up 1 A n c (byteCells l)) (hup : up ≤ w.heap.size) (hn : n ≤ 140737488355000)
    (hx : -9223372036854775808 ≤ x ∧ x ≤ 9223372036854775807) (h : vSize x = 4) : Calls Try.prog 89 #[.slice A n c, .int .i64 x] w (RetBE w (l ++ vBytes x) 0) := by
  have sz := fun W => size_any (w := W) hx
  rw [h] at sz
  have hl : n = l.length := by have := hr.len; rw [byteCells_length] at this; omega
  subst hl
  obtain ⟨i0, hi0, hz0, hz1, hz2⟩ := info_parts info5
  have hb0 : vBytes x = [vByte x 3 + 128, vByte x 2, vByte x 1, vByte x 0] := by unfold vBytes; rw [h]; rfl
  have Hs := Lib.hid sz
  clear sz
  go_enter Try.func89, Try.ntmps89
  go_wp2_with fail
  refine (Hs.out _).mono ?_
  rintro e w1 ⟨rfl, rfl⟩
  go_wp2_with fail
  refine (clone_any hr hup (by omega)).mono ?_
  rintro e w2 ⟨A2, c2, rfl, hown, hb2⟩
  obtain ⟨g, c3, w3, cur, tail, hrun, hblk, hcur, hc3, hcm, hcs, hg, hgr⟩ := run_append_zeros_own (P := Try.prog) w2 w1.heap.size 23 3 23 5 i0 (.int .u8 0) .i64 .i64 Try.underlying23 Try.underlying3 hi0 hz0 hz1 hz2 rfl rfl _ _ _ hown 4 (by omega) (by omega) hb2.size
  have kz0 : w3.cell? ⟨g, l.length, none⟩ = some (.int .u8 0) := by rw [hblk.rules.1, ← Array.getElem?_toList, hcur]; simp [byteCells]
  have kz1 : w3.cell? ⟨g, l.length + 1, none⟩ = some (.int .u8 0) := by rw [hblk.rules.1, ← Array.getElem?_toList, hcur]; simp [byteCells]
  have kz2 : w3.cell? ⟨g, l.length + 2, none⟩ = some (.int .u8 0) := by rw [hblk.rules.1, ← Array.getElem?_toList, hcur]; simp [byteCells]
  have kz3 : w3.cell? ⟨g, l.length + 3, none⟩ = some (.int .u8 0) := by rw [hblk.rules.1, ← Array.getElem?_toList, hcur]; simp [byteCells]
  have ke := hblk.rules.2
  have hcut := cut_l_at Try.underlying23 hi0 hz1 g l.length 4 c3 (by omega) (by omega)
  have hb3 := (Below.refl w1.heap.size w2).grown hgr hb2.size (fun k hk => (hown.lt k hk).1)
  go_wp2_with (at_builtin; refine Lib.wpList_append_run _ rfl _ _ _ _ rfl _ _ rfl rfl _ _ hrun ?_)
  go_rounds 10
  go_rounds 5
  go_ret2
  refine ⟨some ⟨g, 0, none⟩, c3, (by rw [hb0]; simp), ?_, ?_⟩
  · rw [List.length_append, show (vBytes x).length = 4 from by rw [hb0]; rfl]
    refine own_of_blk (by exact ((((((hblk.set_ (l.length) _).set_ (l.length + 1) _).set_ (l.length + 2) _).set_ (l.length + 3) _).set_ l.length _).set_ l.length _)) hg hc3 hcm (by simp [hcs]) ?_
    simp only [Array.toList_setIfInBounds, hcur, List.append_assoc, List.replicate]
    simp only [set_at0, set_at, List.set_cons_zero, List.set_cons_succ, List.length_cons, List.length_nil, Nat.reduceAdd, Nat.reduceLT, Nat.lt_add_one, Nat.zero_lt_succ]
    rw [take_at _ _ _ _ (by rfl), hb0]
    rw [byteCells_append]
    congr 1
    simp [byteCells, vByte_int, u8_add]
    try omega
  · exact (((((((hb2.trans hb3).setCell hg _).setCell hg _).setCell hg _).setCell hg _).setCell hg _).setCell hg _)

theorem vSize_cases (x : Int) : vSize x = 0 ∨ vSize x = 1 ∨ vSize x = 2 ∨ vSize x = 4 ∨ vSize x = 8 := by
  unfold vSize
  split
  · simp
  split
  · simp
  split
  · simp
  split <;> simp

/-- Put. -/
def vPut (l : List UInt8) (x : Int) : List UInt8 × Int := if vSize x = 0 then ([], 10) else (l ++ vBytes x, 0)

end Go.Proofs.Ytfeeincglijmjaa
