/- The walk of a screen's bits, read of a number. -/
import Derived.Test.YtfeeincglijmjaaDE
import Derived.Laws.Bits64b
namespace Go.Proofs.Ytfeeincglijmjaa
open Go.RowKit
set_option linter.unusedVariables false
set_option linter.unusedSimpArgs false
attribute [local go_sem ↓] Go.wp_at_zero Go.wp_at_succ

theorem and_one (x : Int) (h0 : 0 ≤ x) (h1 : x ≤ 4611686018427387903) : bits .and .i64 x 1 = x % 2 := by
  obtain ⟨a, rfl⟩ : ∃ a : Nat, x = a := ⟨x.toNat, by omega⟩
  have e1 : (BitVec.ofInt 64 (a : Int)).toNat = a := by
    rw [BitVec.ofInt_natCast, BitVec.toNat_ofNat]; exact Nat.mod_eq_of_lt (by omega)
  have hx : a &&& 1 = a % 2 := Nat.and_one_is_mod a
  show IntKind.i64.wrap ((BitVec.ofInt 64 (a : Int) &&& BitVec.ofInt 64 (1 : Int)).toNat : Int) = _
  rw [BitVec.toNat_and, e1, show (BitVec.ofInt 64 (1 : Int)).toNat = 1 from rfl, hx, IntWalk.i64_in _ (by omega)]
  omega
theorem bit_is (n : Int) (i k : Nat) (hk : (2 : Int) ^ i = k) (hk1 : 0 < k) (h0 : 0 ≤ n) (h1 : n ≤ 4611686018427387903) : (bits .and .i64 (n / (k : Int)) 1 == 1) = decide (n / 2 ^ i % 2 = 1) := by
  have q0 : 0 ≤ n / (k : Int) := Int.ediv_nonneg h0 (by omega)
  have q1 : n / (k : Int) ≤ n := Int.ediv_le_self _ h0
  rw [and_one _ q0 (by omega), hk]
  rfl
/-- A bit of a number. -/
def oBit (n : Int) (i : Nat) : Bool := decide (n / 2 ^ i % 2 = 1)
set_option maxHeartbeats 4000000 in
set_option maxRecDepth 100000 in
theorem bitsOf_any {s : Scr} {C M : Option Addr} {cc cm g : Nat} {w : World} {n : Int} (hb : Blk w g 35 (s.v C cc M cm)) (h0 : 0 ≤ n) (h1 : n ≤ 4611686018427387903) :
    Calls Try.prog 65 #[.pointer (some ⟨g, 0, none⟩), .int .i64 n] w fun e w' => e = .returned (.tuple #[]) ∧ w.grownBy w' (some g) ∧ w'.heap.size = w.heap.size ∧
      Blk w' g 35 (({ s with wr := oBit n 0, au := oBit n 1, hi := oBit n 2, al := oBit n 3 } : Scr).v C cc M cm) := by
  have ⟨kb, fb⟩ := hb.rules
  have a8 := addr_add g 0 8
  have a9 := addr_add g 0 9
  have a10 := addr_add g 0 10
  have a11 := addr_add g 0 11
  unfold Scr.v at *
  obtain ⟨W, H, X, Y, At, Tp, Bt, wr, au, hi, al, s0, s1, s2, cs, ms⟩ := s
  have i0 : ∀ w, (Instr.index 136 (.agg #[.pointer (some ⟨g, 8, none⟩), .pointer (some ⟨g, 9, none⟩), .pointer (some ⟨g, 10, none⟩), .pointer (some ⟨g, 11, none⟩)]) (.int .i64 0)).run Try.prog w = .ok (.pointer (some ⟨g, 8, none⟩)) w := fun _ => by kernel_rfl
  have i1 : ∀ w, (Instr.index 136 (.agg #[.pointer (some ⟨g, 8, none⟩), .pointer (some ⟨g, 9, none⟩), .pointer (some ⟨g, 10, none⟩), .pointer (some ⟨g, 11, none⟩)]) (.int .i64 1)).run Try.prog w = .ok (.pointer (some ⟨g, 9, none⟩)) w := fun _ => by kernel_rfl
  have i2 : ∀ w, (Instr.index 136 (.agg #[.pointer (some ⟨g, 8, none⟩), .pointer (some ⟨g, 9, none⟩), .pointer (some ⟨g, 10, none⟩), .pointer (some ⟨g, 11, none⟩)]) (.int .i64 2)).run Try.prog w = .ok (.pointer (some ⟨g, 10, none⟩)) w := fun _ => by kernel_rfl
  have i3 : ∀ w, (Instr.index 136 (.agg #[.pointer (some ⟨g, 8, none⟩), .pointer (some ⟨g, 9, none⟩), .pointer (some ⟨g, 10, none⟩), .pointer (some ⟨g, 11, none⟩)]) (.int .i64 3)).run Try.prog w = .ok (.pointer (some ⟨g, 11, none⟩)) w := fun _ => by kernel_rfl
  have hbd := fun (w : World) => run_build (P := Try.prog) w 136 #[(0, .pointer (some ⟨g, 8, none⟩)), (1, .pointer (some ⟨g, 9, none⟩)), (2, .pointer (some ⟨g, 10, none⟩)), (3, .pointer (some ⟨g, 11, none⟩))] #[.pointer (some ⟨g, 8, none⟩), .pointer (some ⟨g, 9, none⟩), .pointer (some ⟨g, 10, none⟩), .pointer (some ⟨g, 11, none⟩)] (by kernel_rfl)
  simp only at *
  go_enter Try.func65, Try.ntmps65
  go_wp2_with fail
  go_quiet (skip)
  go_wp2_with fail
  go_rounds 5
  have b0 : (bits .and .i64 n 1 == 1) = oBit n 0 := by
    have := bit_is n 0 1 rfl (by omega) h0 h1
    rwa [show n / ((1 : Nat) : Int) = n from Int.ediv_one n] at this
  have b1 : (bits .and .i64 (n / 2) 1 == 1) = oBit n 1 := bit_is n 1 2 rfl (by omega) h0 h1
  have b2 : (bits .and .i64 (n / 4) 1 == 1) = oBit n 2 := bit_is n 2 4 rfl (by omega) h0 h1
  have b3 : (bits .and .i64 (n / 8) 1 == 1) = oBit n 3 := bit_is n 3 8 rfl (by omega) h0 h1
  rw [b0, b1, b2, b3]
  go_end0
  refine ⟨rfl, ?_, by simp, ?_⟩
  · exact grownBy_trans (grownBy_drewN (grownBy_refl w _) nq) (grownBy_setCells g [.bool (oBit n 0), .bool (oBit n 1), .bool (oBit n 2), .bool (oBit n 3)] 8 (w.drewN nq))
  · have := ((((hb.drewN nq).set_ 8 (.bool (oBit n 0))).set_ 9 (.bool (oBit n 1))).set_ 10 (.bool (oBit n 2))).set_ 11 (.bool (oBit n 3))
    simpa using this
end Go.Proofs.Ytfeeincglijmjaa
