/- Plain law: bytes of one size are ordered as their numbers are. -/
import Derived.Test.YthcnahcnboalbaaP
namespace Go.Proofs.Ythcnahcnboalbaa
open Go.RowKit
set_option linter.unusedVariables false
set_option linter.unusedSimpArgs false

theorem less_step {a b : UInt8} {x y : List UInt8} {A B q r : Int} (ha : (a.toNat : Int) = A) (hb : (b.toNat : Int) = B) (h : Op.bytesLess x y = decide (q < r)) (hq : 0 ≤ q) (hr : 0 ≤ r) {M : Int} (hqm : q < M) (hrm : r < M) :
    Op.bytesLess (a :: x) (b :: y) = decide (A * M + q < B * M + r) := by
  have e : Op.bytesLess (a :: x) (b :: y) = (decide (a < b) || (a == b && Op.bytesLess x y)) := rfl
  rw [e, h]
  have hlt : (a < b) ↔ A < B := by rw [UInt8.lt_iff_toNat_lt]; omega
  have heq : (a = b) ↔ A = B := ⟨fun h => by subst h; omega, fun h => u8_eq (by omega)⟩
  by_cases h1 : A < B
  · rw [decide_eq_true (hlt.2 h1)]
    have h3 : A * M + q < B * M + r := by
      have : (A + 1) * M ≤ B * M := Int.mul_le_mul_of_nonneg_right (by omega) (by omega)
      rw [Int.add_mul] at this
      omega
    rw [decide_eq_true h3]
    rfl
  · rw [decide_eq_false (fun h => h1 (hlt.1 h)), Bool.false_or]
    by_cases h2 : A = B
    · rw [show (a == b) = true from by simpa using heq.2 h2, Bool.true_and, h2]
      congr 1
      simp
    · rw [show (a == b) = false from by simpa using fun h => h2 (heq.1 h), Bool.false_and]
      have h3 : ¬ A * M + q < B * M + r := by
        have : (B + 1) * M ≤ A * M := Int.mul_le_mul_of_nonneg_right (by omega) (by omega)
        rw [Int.add_mul] at this
        omega
      rw [decide_eq_false h3]

theorem less_nil : Op.bytesLess [] [] = decide ((0 : Int) < 0) := rfl
theorem low (x : Int) (k : Nat) : ((vByte x k).toNat : Int) = x / 2 ^ (8 * k) % 256 := vByte_int x k

theorem dec_congr {p q : Prop} [Decidable p] [Decidable q] (h : p ↔ q) : decide p = decide q := by
  by_cases hp : p
  · rw [decide_eq_true hp, decide_eq_true (h.1 hp)]
  · rw [decide_eq_false hp, decide_eq_false (fun hq => hp (h.2 hq))]

theorem less_1 (x y : Int) : Op.bytesLess [vByte x 0] [vByte y 0] = decide (x % 256 < y % 256) := by
  rw [less_step (low x 0) (low y 0) less_nil (by omega) (by omega) (M := 1) (by omega) (by omega)]
  apply dec_congr
  simp
theorem less_2 (x y : Int) : Op.bytesLess [vByte x 1, vByte x 0] [vByte y 1, vByte y 0] = decide (x % 65536 < y % 65536) := by
  rw [less_step (low x 1) (low y 1) (less_1 x y) (by omega) (by omega) (M := 256) (by omega) (by omega)]
  apply dec_congr
  simp
  omega
theorem less_3 (x y : Int) : Op.bytesLess [vByte x 2, vByte x 1, vByte x 0] [vByte y 2, vByte y 1, vByte y 0] = decide (x % 16777216 < y % 16777216) := by
  rw [less_step (low x 2) (low y 2) (less_2 x y) (by omega) (by omega) (M := 65536) (by omega) (by omega)]
  apply dec_congr
  simp
  omega
theorem less_7 (x y : Int) : Op.bytesLess [vByte x 6, vByte x 5, vByte x 4, vByte x 3, vByte x 2, vByte x 1, vByte x 0] [vByte y 6, vByte y 5, vByte y 4, vByte y 3, vByte y 2, vByte y 1, vByte y 0] = decide (x % 72057594037927936 < y % 72057594037927936) := by
  have l4 : Op.bytesLess [vByte x 3, vByte x 2, vByte x 1, vByte x 0] [vByte y 3, vByte y 2, vByte y 1, vByte y 0] = decide (x % 4294967296 < y % 4294967296) := by
    rw [less_step (low x 3) (low y 3) (less_3 x y) (by omega) (by omega) (M := 16777216) (by omega) (by omega)]
    apply dec_congr
    simp
    omega
  have l5 : Op.bytesLess [vByte x 4, vByte x 3, vByte x 2, vByte x 1, vByte x 0] [vByte y 4, vByte y 3, vByte y 2, vByte y 1, vByte y 0] = decide (x % 1099511627776 < y % 1099511627776) := by
    rw [less_step (low x 4) (low y 4) l4 (by omega) (by omega) (M := 4294967296) (by omega) (by omega)]
    apply dec_congr
    simp
    omega
  have l6 : Op.bytesLess [vByte x 5, vByte x 4, vByte x 3, vByte x 2, vByte x 1, vByte x 0] [vByte y 5, vByte y 4, vByte y 3, vByte y 2, vByte y 1, vByte y 0] = decide (x % 281474976710656 < y % 281474976710656) := by
    rw [less_step (low x 5) (low y 5) l5 (by omega) (by omega) (M := 1099511627776) (by omega) (by omega)]
    apply dec_congr
    simp
    omega
  rw [less_step (low x 6) (low y 6) l6 (by omega) (by omega) (M := 281474976710656) (by omega) (by omega)]
  apply dec_congr
  simp
  omega

/-- Of one size they are ordered as their numbers are. -/
theorem vBytes_less {x y : Int} (hx : vSize x ≠ 0) (h : vSize x = vSize y) : Op.bytesLess (vBytes x) (vBytes y) = decide (x < y) := by
  rcases vSize_cases x with h1 | h1 | h1 | h1 | h1
  · exact absurd h1 hx
  · have r1 := vSize_1 h1
    have r2 := vSize_1 (x := y) (by omega)
    rw [vBytes_1 h1, vBytes_1 (by omega), less_1]
    apply dec_congr
    omega
  · have r1 := vSize_2 h1
    have r2 := vSize_2 (x := y) (by omega)
    rw [vBytes_2 h1, vBytes_2 (by omega), less_step (vByte_64 x 1) (vByte_64 y 1) (less_1 x y) (by omega) (by omega) (M := 256) (by omega) (by omega)]
    apply dec_congr
    simp
    omega
  · have r1 := vSize_4 h1
    have r2 := vSize_4 (x := y) (by omega)
    rw [vBytes_4 h1, vBytes_4 (by omega), less_step (vByte_128 x 3) (vByte_128 y 3) (less_3 x y) (by omega) (by omega) (M := 16777216) (by omega) (by omega)]
    apply dec_congr
    simp
    omega
  · have r1 := vSize_8 h1
    have r2 := vSize_8 (x := y) (by omega)
    rw [vBytes_8 h1, vBytes_8 (by omega), less_step (vByte_192 x 7) (vByte_192 y 7) (less_7 x y) (by omega) (by omega) (M := 72057594037927936) (by omega) (by omega)]
    apply dec_congr
    simp
    omega
end Go.Proofs.Ythcnahcnboalbaa
