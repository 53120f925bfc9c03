/- Words and plain laws for KeysOrder. -/
import Derived.Test.YtdiphckbnendlaaI
import Derived.Test.YtdiphckbnendlaaLib4
namespace Go.Proofs.Ytdiphckbnendlaa
open Go.RowKit
set_option linter.unusedVariables false
set_option linter.unusedSimpArgs false

/-- Of what waits, Acked, Part, Take, Type in terms of what was typed. -/
theorem acked_typed {S : List UInt8} {f nx : Nat} (hf : f ≤ nx) (hn : nx ≤ S.length) (hw : S.length - f ≤ 64) (hs : S.length ≤ 10000) : kAcked f (S.drop f) nx = ((nx : Int), S.drop nx) := by
  unfold kAcked
  rw [kOf_ok (by omega) (by omega) (by rw [List.length_drop]; exact hw)]
  simp only [List.length_drop]
  rw [if_neg (by omega), show ((nx : Int) - (f : Int)).toNat = nx - f from by omega, List.drop_drop, show f + (nx - f) = nx from by omega]
theorem type_typed {S b : List UInt8} {f : Nat} (hf : f ≤ S.length) (hw : S.length - f ≤ 64) (hs : S.length ≤ 10000) : kType f (S.drop f) b = if S.length - f + b.length ≤ 64 then ((f : Int), (S ++ b).drop f, 0) else ((f : Int), S.drop f, 210) := by
  unfold kType
  rw [kOf_ok (by omega) (by omega) (by rw [List.length_drop]; exact hw)]
  simp only [List.length_drop]
  by_cases h : S.length - f + b.length ≤ 64
  · rw [if_pos ⟨h, by omega⟩, if_pos h, List.drop_append_of_le_length hf]
  · rw [if_neg (fun hh => h hh.1), if_neg h]
/-- A part of what was typed. -/
def isPart (S : List UInt8) (at_ : Int) (b : List UInt8) : Prop := ∃ a : Nat, at_ = a ∧ a + b.length ≤ S.length ∧ b = (S.drop a).take b.length ∧ 0 < b.length ∧ b.length ≤ 64
theorem isPart.more {S : List UInt8} {p : Int} {b : List UInt8} (h : isPart S p b) (c : List UInt8) : isPart (S ++ c) p b := by
  obtain ⟨a, h1, h2, h3, h4⟩ := h
  refine ⟨a, h1, by rw [List.length_append]; omega, ?_, h4⟩
  rw [List.drop_append_of_le_length (by omega), List.take_append_of_le_length (by rw [List.length_drop]; omega)]
  exact h3
theorem part_typed {S : List UInt8} {f : Nat} {m t : Int} (hf : f ≤ S.length) (hw : S.length - f ≤ 64) (hs : S.length ≤ 10000) :
    (kPart f (S.drop f) m t).2.2 = true ∧ isPart S (kPart f (S.drop f) m t).1 (kPart f (S.drop f) m t).2.1 ∨ kPart f (S.drop f) m t = (0, [], false) := by
  unfold kPart kAt
  rw [kOf_ok (by omega) (by omega) (by rw [List.length_drop]; exact hw)]
  simp only [List.length_drop]
  generalize hk : (if m < (f : Int) ∨ (f : Int) + ((S.length - f : Nat) : Int) < m then 0 else (m - (f : Int)).toNat) = k
  by_cases h : k < S.length - f ∧ 0 < t
  · rw [if_pos h]
    refine .inl ⟨rfl, f + k, by simp, ?_, ?_, ?_, ?_⟩
    · simp only [List.length_take, List.length_drop]; omega
    · simp only [List.length_take, List.length_drop, List.drop_drop]
      rw [List.take_eq_take_iff, List.length_drop]
      omega
    · simp only [List.length_take, List.length_drop]; omega
    · simp only [List.length_take, List.length_drop]; omega
  · rw [if_neg h]
    exact .inr rfl
theorem take_typed {S : List UInt8} {nx : Nat} {p : Int} {b : List UInt8} (hn : nx ≤ S.length) (hs : S.length ≤ 10000) (h : isPart S p b) :
    ∃ nx' : Nat, nx ≤ nx' ∧ nx' ≤ S.length ∧ (kTake nx p b).1 = nx' ∧ S.take nx ++ (kTake nx p b).2 = S.take nx' ∧ (kTake nx p b).2.length ≤ 64 := by
  obtain ⟨a, rfl, h2, h3, h4, h5⟩ := h
  unfold kTake
  by_cases hh : (nx : Int) < 0 ∨ (a : Int) < 0 ∨ 4611686018427322368 < (nx : Int) ∨ 4611686018427322368 < (a : Int) ∨ 65535 < b.length ∨ (nx : Int) < (a : Int) ∨ (a : Int) + (b.length : Int) < (nx : Int)
  · rw [if_pos hh]
    exact ⟨nx, Nat.le_refl _, hn, rfl, by simp, by simp⟩
  · rw [if_neg hh]
    refine ⟨a + b.length, by omega, h2, by simp, ?_, by simp only [List.length_drop]; omega⟩
    simp only
    rw [show ((nx : Int) - (a : Int)).toNat = nx - a from by omega]
    obtain ⟨L, hL⟩ : ∃ L, L = b.length := ⟨_, rfl⟩
    rw [← hL] at h3 h2 hh ⊢
    rw [h3, List.drop_take, List.drop_drop, show a + (nx - a) = nx from by omega, ← List.take_add, show nx + (L - (nx - a)) = a + L from by omega]
end Go.Proofs.Ytdiphckbnendlaa
