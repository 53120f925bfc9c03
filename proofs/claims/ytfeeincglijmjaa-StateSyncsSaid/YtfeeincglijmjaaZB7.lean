/- Texts of this seat, one behind the other. -/
import Derived.Test.YtfeeincglijmjaaDE
import Derived.Laws.Bits64b
import Derived.Deep.RegionHeld3
namespace Go.Proofs.Ytfeeincglijmjaa
/- The walk of a screen's bits, read of a number. -/
section
open Go.RowKit
set_option linter.unusedVariables false
set_option linter.unusedSimpArgs false
attribute [local go_sem ↓] Go.wp_at_zero Go.wp_at_succ

theorem and_one (x : Int) (h0 : 0 ≤ x) (h1 : x ≤ 4611686018427387903) : bits .and .i64 x 1 = x % 2 := by
  obtain ⟨a, rfl⟩ : ∃ a : Nat, x = a := ⟨x.toNat, by omega⟩
  have e1 : (BitVec.ofInt 64 (a : Int)).toNat = a := by
    rw [BitVec.ofInt_natCast, BitVec.toNat_ofNat]; exact Nat.mod_eq_of_lt (by omega)
  have hx : a &&& 1 = a % 2 := Nat.and_one_is_mod a
  show IntKind.i64.wrap ((BitVec.ofInt 64 (a : Int) &&& BitVec.ofInt 64 (1 : Int)).toNat : Int) = _
  rw [BitVec.toNat_and, e1, show (BitVec.ofInt 64 (1 : Int)).toNat = 1 from rfl, hx, IntWalk.i64_in _ (by omega)]
  omega
theorem bit_is (n : Int) (i k : Nat) (hk : (2 : Int) ^ i = k) (hk1 : 0 < k) (h0 : 0 ≤ n) (h1 : n ≤ 4611686018427387903) : (bits .and .i64 (n / (k : Int)) 1 == 1) = decide (n / 2 ^ i % 2 = 1) := by
  have q0 : 0 ≤ n / (k : Int) := Int.ediv_nonneg h0 (by omega)
  have q1 : n / (k : Int) ≤ n := Int.ediv_le_self _ h0
  rw [and_one _ q0 (by omega), hk]
  rfl
/-- A bit of a number. -/
def oBit (n : Int) (i : Nat) : Bool := decide (n / 2 ^ i % 2 = 1)
set_option maxHeartbeats 4000000 in
set_option maxRecDepth 100000 in
theorem bitsOf_any {s : Scr} {C M : Option Addr} {cc cm g : Nat} {w : World} {n : Int} (hb : Blk w g 35 (s.v C cc M cm)) (h0 : 0 ≤ n) (h1 : n ≤ 4611686018427387903) :
    Calls Try.prog 65 #[.pointer (some ⟨g, 0, none⟩), .int .i64 n] w fun e w' => e = .returned (.tuple #[]) ∧ w.grownBy w' (some g) ∧ w'.heap.size = w.heap.size ∧
      Blk w' g 35 (({ s with wr := oBit n 0, au := oBit n 1, hi := oBit n 2, al := oBit n 3 } : Scr).v C cc M cm) := by
  have ⟨kb, fb⟩ := hb.rules
  have a8 := addr_add g 0 8
  have a9 := addr_add g 0 9
  have a10 := addr_add g 0 10
  have a11 := addr_add g 0 11
  unfold Scr.v at *
  obtain ⟨W, H, X, Y, At, Tp, Bt, wr, au, hi, al, s0, s1, s2, cs, ms⟩ := s
  have i0 : ∀ w, (Instr.index 136 (.agg #[.pointer (some ⟨g, 8, none⟩), .pointer (some ⟨g, 9, none⟩), .pointer (some ⟨g, 10, none⟩), .pointer (some ⟨g, 11, none⟩)]) (.int .i64 0)).run Try.prog w = .ok (.pointer (some ⟨g, 8, none⟩)) w := fun _ => by kernel_rfl
  have i1 : ∀ w, (Instr.index 136 (.agg #[.pointer (some ⟨g, 8, none⟩), .pointer (some ⟨g, 9, none⟩), .pointer (some ⟨g, 10, none⟩), .pointer (some ⟨g, 11, none⟩)]) (.int .i64 1)).run Try.prog w = .ok (.pointer (some ⟨g, 9, none⟩)) w := fun _ => by kernel_rfl
  have i2 : ∀ w, (Instr.index 136 (.agg #[.pointer (some ⟨g, 8, none⟩), .pointer (some ⟨g, 9, none⟩), .pointer (some ⟨g, 10, none⟩), .pointer (some ⟨g, 11, none⟩)]) (.int .i64 2)).run Try.prog w = .ok (.pointer (some ⟨g, 10, none⟩)) w := fun _ => by kernel_rfl
  have i3 : ∀ w, (Instr.index 136 (.agg #[.pointer (some ⟨g, 8, none⟩), .pointer (some ⟨g, 9, none⟩), .pointer (some ⟨g, 10, none⟩), .pointer (some ⟨g, 11, none⟩)]) (.int .i64 3)).run Try.prog w = .ok (.pointer (some ⟨g, 11, none⟩)) w := fun _ => by kernel_rfl
  have hbd := fun (w : World) => run_build (P := Try.prog) w 136 #[(0, .pointer (some ⟨g, 8, none⟩)), (1, .pointer (some ⟨g, 9, none⟩)), (2, .pointer (some ⟨g, 10, none⟩)), (3, .pointer (some ⟨g, 11, none⟩))] #[.pointer (some ⟨g, 8, none⟩), .pointer (some ⟨g, 9, none⟩), .pointer (some ⟨g, 10, none⟩), .pointer (some ⟨g, 11, none⟩)] (by kernel_rfl)
  simp only at *
  go_enter Try.func65, Try.ntmps65
  go_wp2_with fail
  go_quiet (skip)
  go_wp2_with fail
  go_rounds 5
  have b0 : (bits .and .i64 n 1 == 1) = oBit n 0 := by
    have := bit_is n 0 1 rfl (by omega) h0 h1
    rwa [show n / ((1 : Nat) : Int) = n from Int.ediv_one n] at this
  have b1 : (bits .and .i64 (n / 2) 1 == 1) = oBit n 1 := bit_is n 1 2 rfl (by omega) h0 h1
  have b2 : (bits .and .i64 (n / 4) 1 == 1) = oBit n 2 := bit_is n 2 4 rfl (by omega) h0 h1
  have b3 : (bits .and .i64 (n / 8) 1 == 1) = oBit n 3 := bit_is n 3 8 rfl (by omega) h0 h1
  rw [b0, b1, b2, b3]
  go_end0
  refine ⟨rfl, ?_, by simp, ?_⟩
  · exact grownBy_trans (grownBy_drewN (grownBy_refl w _) nq) (grownBy_setCells g [.bool (oBit n 0), .bool (oBit n 1), .bool (oBit n 2), .bool (oBit n 3)] 8 (w.drewN nq))
  · have := ((((hb.drewN nq).set_ 8 (.bool (oBit n 0))).set_ 9 (.bool (oBit n 1))).set_ 10 (.bool (oBit n 2))).set_ 11 (.bool (oBit n 3))
    simpa using this
end

/- The walk of diff.head. -/
section
open Go.RowKit
set_option linter.unusedVariables false
set_option linter.unusedSimpArgs false
attribute [local go_sem ↓] Go.wp_at_zero Go.wp_at_succ

theorem capBound {w : World} : 11 ≤ (Question.appendCap 11 8 3).cut (w.tape w.drawn (Question.appendCap 11 8 3)) ∧ (Question.appendCap 11 8 3).cut (w.tape w.drawn (Question.appendCap 11 8 3)) ≤ maxLen := by
  have hlt := Nat.mod_lt (w.tape w.drawn (.appendCap 11 8 3)) (show 0 < 2 ^ 63 - 11 by omega)
  show 11 ≤ 11 + _ ∧ 11 + _ ≤ maxLen
  unfold maxLen
  omega

set_option maxHeartbeats 8000000 in
set_option maxRecDepth 100000 in
theorem head_any {s : Scr} {C M : Option Addr} {cc cm : Nat} {w : World} :
    Calls Try.prog 57 #[.agg (s.v C cc M cm)] w (RetI w (dHead s)) := by
  obtain ⟨i0, hi0, hz0, hz1, hz2⟩ := info_parts info3
  have HB := Lib.hid (fun W => bits_any (s := s) (C := C) (M := M) (cc := cc) (cm := cm) (w := W))
  obtain ⟨W, H, X, Y, At, Tp, Bt, wr, au, hi, al, s0, s1, s2, cs, ms⟩ := s
  unfold dHead
  unfold Scr.v at HB ⊢
  generalize dBits _ = q at *
  simp only at HB ⊢
  have bb := (Below.refl w.heap.size w).alloc (Nat.le_refl _) (.cells #[.int .i64 W, .int .i64 H, .slice C cs.length cc, .int .i64 X, .int .i64 Y, .int .i64 At, .int .i64 Tp, .int .i64 Bt, .bool wr, .bool au, .bool hi, .bool al, .int .i64 s0, .int .i64 s1, .int .i64 s2, .slice M ms.length cm] 35)
  have b1 := Blk.new w 35 #[.int .i64 W, .int .i64 H, .slice C cs.length cc, .int .i64 X, .int .i64 Y, .int .i64 At, .int .i64 Tp, .int .i64 Bt, .bool wr, .bool au, .bool hi, .bool al, .int .i64 s0, .int .i64 s1, .int .i64 s2, .slice M ms.length cm] rfl
  go_enter Try.func57, Try.ntmps57
  go_wp2_with fail
  go_region_held3 (fun w' => w'.cell? ⟨w.heap.size, 0, none⟩ = some (.int .i64 W) ∧ w'.cell? ⟨w.heap.size, 1, none⟩ = some (.int .i64 H) ∧ w'.cell? ⟨w.heap.size, 2, none⟩ = some (.slice C cs.length cc) ∧ w'.cell? ⟨w.heap.size, 3, none⟩ = some (.int .i64 X) ∧ w'.cell? ⟨w.heap.size, 4, none⟩ = some (.int .i64 Y) ∧ w'.cell? ⟨w.heap.size, 5, none⟩ = some (.int .i64 At) ∧ w'.cell? ⟨w.heap.size, 6, none⟩ = some (.int .i64 Tp) ∧ w'.cell? ⟨w.heap.size, 7, none⟩ = some (.int .i64 Bt) ∧ w'.cell? ⟨w.heap.size, 8, none⟩ = some (.bool wr) ∧ w'.cell? ⟨w.heap.size, 9, none⟩ = some (.bool au) ∧ w'.cell? ⟨w.heap.size, 10, none⟩ = some (.bool hi) ∧ w'.cell? ⟨w.heap.size, 11, none⟩ = some (.bool al) ∧ w'.cell? ⟨w.heap.size, 12, none⟩ = some (.int .i64 s0) ∧ w'.cell? ⟨w.heap.size, 13, none⟩ = some (.int .i64 s1) ∧ w'.cell? ⟨w.heap.size, 14, none⟩ = some (.int .i64 s2) ∧ w'.cell? ⟨w.heap.size, 15, none⟩ = some (.slice M ms.length cm)) (first | exact ⟨b1.rules.1 0, b1.rules.1 1, b1.rules.1 2, b1.rules.1 3, b1.rules.1 4, b1.rules.1 5, b1.rules.1 6, b1.rules.1 7, b1.rules.1 8, b1.rules.1 9, b1.rules.1 10, b1.rules.1 11, b1.rules.1 12, b1.rules.1 13, b1.rules.1 14, b1.rules.1 15⟩ | exact ⟨k1.rules.1 0, k1.rules.1 1, k1.rules.1 2, k1.rules.1 3, k1.rules.1 4, k1.rules.1 5, k1.rules.1 6, k1.rules.1 7, k1.rules.1 8, k1.rules.1 9, k1.rules.1 10, k1.rules.1 11, k1.rules.1 12, k1.rules.1 13, k1.rules.1 14, k1.rules.1 15⟩ | exact ⟨(k1.alloc _).rules.1 0, (k1.alloc _).rules.1 1, (k1.alloc _).rules.1 2, (k1.alloc _).rules.1 3, (k1.alloc _).rules.1 4, (k1.alloc _).rules.1 5, (k1.alloc _).rules.1 6, (k1.alloc _).rules.1 7, (k1.alloc _).rules.1 8, (k1.alloc _).rules.1 9, (k1.alloc _).rules.1 10, (k1.alloc _).rules.1 11, (k1.alloc _).rules.1 12, (k1.alloc _).rules.1 13, (k1.alloc _).rules.1 14, (k1.alloc _).rules.1 15⟩ | go_keep)
    ((first | (go_at_call 90; refine (HB.out _).mono ?_; rintro e w2 ⟨rfl, hb2⟩; have k1 : Blk w2 w.heap.size 35 #[.int .i64 W, .int .i64 H, .slice C cs.length cc, .int .i64 X, .int .i64 Y, .int .i64 At, .int .i64 Tp, .int .i64 Bt, .bool wr, .bool au, .bool hi, .bool al, .int .i64 s0, .int .i64 s1, .int .i64 s2, .slice M ms.length cm] := Blk.later (by first | exact b1 | exact b1.drew | exact (b1.drew).drew) hb2)))
  obtain ⟨c, hc⟩ : ∃ c, c = (Question.appendCap 11 8 3).cut (w2.tape w2.drawn (Question.appendCap 11 8 3)) := ⟨_, rfl⟩
  have hcb := capBound (w := w2)
  rw [← hc] at hcb ⊢
  clear hc
  go_wp2_with fail
  go_ret
  have bb2 : Below w.heap.size w w2 := bb.drew.trans (hb2.mono (by simp : w.heap.size ≤ _))
  have e11 : ([W, H, X, Y, At, Tp, Bt, q, s0, s1, s2] : List Int).length = 11 := rfl
  refine ⟨some ⟨w2.heap.size + 1, 0, none⟩, c, rfl, ?_, ?_⟩
  · rw [e11]
    refine own_mk (by have := bb2.size; omega) (by exact (Blk.new (g := w2.heap.size + 1) (w2.alloc (.cells #[.int .i64 W, .int .i64 H, .int .i64 X, .int .i64 Y, .int .i64 At, .int .i64 Tp, .int .i64 Bt, .int .i64 q] 3)) 3 _ (by simp))) (by omega) hcb.2 ?_ ?_
    · simp [size_zeroCells]; omega
    · simp [intCells]
  · exact ((bb2.alloc bb2.size _).alloc (by simp; have := bb2.size; omega) _).drew
end

/- The walks of the document's bit and head. -/
section
open Go.RowKit
set_option linter.unusedVariables false
set_option linter.unusedSimpArgs false
attribute [local go_sem ↓] Go.wp_at_zero Go.wp_at_succ

/-- A number, if something is so. -/
def bVal (b : Bool) (n : Int) : Int := if b then n else 0
theorem bVal_bnd (b : Bool) {n : Int} (h : 0 ≤ n) : 0 ≤ bVal b n ∧ bVal b n ≤ n := by
  cases b <;> simp [bVal] <;> omega
theorem bit_any (b : Bool) (n : Int) (w : World) : Calls Try.prog 94 #[.bool b, .int .i64 n] w fun e w' => e = .returned (.int .i64 (bVal b n)) ∧ w' = w := by
  cases b
  all_goals
    go_enter Try.func94, Try.ntmps94
    go_wp2
    go_ret
    exact ⟨rfl, rfl⟩

set_option maxHeartbeats 8000000 in
set_option maxRecDepth 100000 in
theorem rhead_any {s : Scr} {C M : Option Addr} {cc cm : Nat} {w : World} :
    Calls Try.prog 61 #[.agg (s.v C cc M cm)] w (RetI w (dHead s)) := by
  obtain ⟨W, H, X, Y, At, Tp, Bt, wr, au, hi, al, s0, s1, s2, cs, ms⟩ := s
  have e : dHead ⟨W, H, X, Y, At, Tp, Bt, wr, au, hi, al, s0, s1, s2, cs, ms⟩ = [W, H, X, Y, At, Tp, Bt, bVal wr 1 + bVal au 2 + bVal hi 4 + bVal al 8, s0, s1, s2] := rfl
  rw [e]
  unfold Scr.v
  simp only
  have h1 := bVal_bnd wr (n := 1) (by omega)
  have h2 := bVal_bnd au (n := 2) (by omega)
  have h3 := bVal_bnd hi (n := 4) (by omega)
  have h4 := bVal_bnd al (n := 8) (by omega)
  have H1 := Lib.hid (fun W => bit_any wr 1 W)
  have H2 := Lib.hid (fun W => bit_any au 2 W)
  have H3 := Lib.hid (fun W => bit_any hi 4 W)
  have H4 := Lib.hid (fun W => bit_any al 8 W)
  clear e
  generalize bVal wr 1 = v1 at *
  generalize bVal au 2 = v2 at *
  generalize bVal hi 4 = v3 at *
  generalize bVal al 8 = v4 at *
  have d1 : IntKind.i64.wrap (v1 + v2) = v1 + v2 := IntWalk.i64_in _ (by omega)
  have d2 : IntKind.i64.wrap (v1 + v2 + v3) = v1 + v2 + v3 := IntWalk.i64_in _ (by omega)
  have d3 : IntKind.i64.wrap (v1 + v2 + v3 + v4) = v1 + v2 + v3 + v4 := IntWalk.i64_in _ (by omega)
  have bb := (Below.refl w.heap.size w).alloc (Nat.le_refl _) (.cells #[.int .i64 W, .int .i64 H, .slice C cs.length cc, .int .i64 X, .int .i64 Y, .int .i64 At, .int .i64 Tp, .int .i64 Bt, .bool wr, .bool au, .bool hi, .bool al, .int .i64 s0, .int .i64 s1, .int .i64 s2, .slice M ms.length cm] 35)
  have b1 := Blk.new w 35 #[.int .i64 W, .int .i64 H, .slice C cs.length cc, .int .i64 X, .int .i64 Y, .int .i64 At, .int .i64 Tp, .int .i64 Bt, .bool wr, .bool au, .bool hi, .bool al, .int .i64 s0, .int .i64 s1, .int .i64 s2, .slice M ms.length cm] rfl
  go_enter Try.func61, Try.ntmps61
  go_upto_region 1 with fail
  go_quiet ((first | (go_at_call 94; first | exact Calls.quiet_of_same (H1.out _) | exact Calls.quiet_of_same (H2.out _) | exact Calls.quiet_of_same (H3.out _) | exact Calls.quiet_of_same (H4.out _))))
  go_wp2_with fail
  go_ret
  refine ⟨some ⟨w.heap.size + 1, 0, none⟩, 11, rfl, own_mk (by omega) (Blk.new (g := w.heap.size + 1) _ 3 _ (by simp)) (Nat.le_refl _) (by unfold maxLen; omega) rfl rfl, ?_⟩
  exact (below_drewN bb _).alloc (by simp) _
end
end Go.Proofs.Ytfeeincglijmjaa
