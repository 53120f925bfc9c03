/- The walk of KeysAll. -/
import Derived.Test.YtdiphckbnendlaaI
import Derived.Deep.LoopGhost
namespace Go.Proofs.Ytdiphckbnendlaa
set_option linter.unusedVariables false
open Go.RowKit
attribute [local go_sem ↓] Go.wp_at_zero Go.wp_at_succ

theorem all_count {len k i : Nat} (hk : 0 < k) (h1 : len ≤ i * k) (h2 : i * k < len + k) : (len + k - 1) / k = i := by
  refine Nat.div_eq_of_lt_le (by omega) ?_
  rw [Nat.succ_mul]; omega
theorem kPart_all {f : Int} {d : List UInt8} {t : Int} (h0 : 0 ≤ f) (h1 : f ≤ 4611686018427387839) (hd : d.length ≤ 64) (hp : 0 < d.length) (ht : 0 < t) : kPart f d f t = (f, d.take t.toNat, true) := by
  unfold kPart kAt
  rw [kOf_ok h0 h1 hd]
  have h2 : ¬ (f < f ∨ f + (d.length : Int) < f) := by omega
  simp only [if_neg h2]
  rw [show (f - f).toNat = 0 from by omega, if_pos ⟨hp, ht⟩]
  simp
theorem kPart_end {f : Int} {t : Int} (h0 : 0 ≤ f) (h1 : f ≤ 4611686018427387839) : kPart f [] f t = (0, [], false) := by
  unfold kPart kAt
  rw [kOf_ok h0 h1 (by simp)]
  simp
theorem kTake_all {f : Int} {d : List UInt8} (h0 : 0 ≤ f) (h1 : f ≤ 4611686018427322368) (hd : d.length ≤ 64) : kTake f f d = (f + d.length, d) := by
  unfold kTake
  rw [if_neg (by omega), show (f - f).toNat = 0 from by omega, List.drop_zero]
theorem kAcked_all {f : Int} {d : List UInt8} {j : Nat} (h0 : 0 ≤ f) (h1 : f ≤ 4611686018427387839) (hd : d.length ≤ 64) (hj : j ≤ d.length) : kAcked f d (f + j) = (f + j, d.drop j) := by
  unfold kAcked
  rw [kOf_ok h0 h1 hd]
  simp only
  rw [if_neg (by omega), show (f + (j : Int) - f).toNat = j from by omega]
theorem kType_all {b : List UInt8} (hb : b.length ≤ 64) : kType 5 [] b = (5, b, 0) := by
  unfold kType
  rw [kOf_ok (by omega) (by omega) (by simp), if_pos ⟨by simpa using hb, by simp; omega⟩]
  simp

theorem bytes_add (a b : List UInt8) : (⟨a.toArray⟩ : ByteArray) ++ ⟨b.toArray⟩ = ⟨(a ++ b).toArray⟩ := by
  apply ByteArray.ext
  rw [ByteArray.data_append]
  simp

theorem all_long {A : Option Addr} {n c : Nat} {x : Int} {w : World} (hn : 64 < n) :
    Calls Try.prog 6 #[.slice A n c, .int .u8 x] w fun e w' => e = .returned (.bool true) ∧ Below w.heap.size w w' := by
  go_enter Try.func6, Try.ntmps6
  go_wp2_with fail
  refine (awake_any _).mono ?_
  rintro e w1 ⟨rfl, hb1⟩
  go_wp2
  go_ret
  exact ⟨rfl, hb1⟩

set_option maxRecDepth 100000 in
set_option maxHeartbeats 4000000 in
theorem all_short {A : Option Addr} {c : Nat} {l : List UInt8} {x : Int} {w : World} (hr : Sl w 0 w.heap.size 1 A l.length c (byteCells l)) (hn : l.length ≤ 64) (hx : 0 ≤ x ∧ x ≤ 255) (k : Nat) (hk : (1 : Int) + x % 40 = k) :
    Calls Try.prog 6 #[.slice A l.length c, .int .u8 x] w fun e w' => e = .returned (.bool true) ∧ Below w.heap.size w w' := by
  have hk1 : 1 ≤ k ∧ k ≤ 40 := by omega
  go_enter Try.func6, Try.ntmps6
  go_wp2_with fail
  refine (awake_any _).mono ?_
  rintro e w1 ⟨rfl, bb⟩
  go_wp2_with fail
  have H1 := type_any (f := 5) (A := none) (n := 0) (c := 0) (l := []) (Sl.empty _ 0 0 1) (Nat.zero_le _) (hr.below bb (Nat.le_refl _)) bb.size (by omega)
  rw [kType_all hn] at H1
  refine H1.mono ?_
  clear H1
  rintro e w2 ⟨T, ct, rfl, hT, hb2⟩
  have z1 := bb.size
  have z2 := hb2.size
  have st : Sl (w2.alloc (.cells #[.int .i64 5, .slice T l.length ct] 24)) w1.heap.size w2.heap.size 1 T l.length ct (byteCells l) := (Sl.of_own hT).alloc (Nat.le_refl _) _
  have bt : Blk (w2.alloc (.cells #[.int .i64 5, .slice T l.length ct] 24)) w2.heap.size 24 #[.int .i64 5, .slice T l.length ct] := Blk.new w2 24 _ rfl
  have bb := (bb.trans (hb2.mono bb.size)).alloc (by omega) (.cells #[.int .i64 5, .slice T l.length ct] 24)
  clear hT hb2
  go_wp2_with fail
  go_loopg [9, 10, 11] l.length (fun g s9 s10 s11 wr => ∃ (i pos : Nat) (T : Option Addr) (ct lo up : Nat), pos ≤ l.length ∧ g = l.length - pos ∧ s9 = .int .i64 (5 + pos) ∧ s10 = .string ⟨(l.take pos).toArray⟩ ∧ s11 = .int .i64 i ∧ i ≤ pos ∧
      Aside ((pos = i * k ∨ pos = l.length ∧ l.length ≤ i * k) ∧ i * k < l.length + k) ∧ Below w.heap.size w wr ∧ w2.heap.size < wr.heap.size ∧ (up ≤ w2.heap.size ∨ w2.heap.size < lo) ∧ up ≤ wr.heap.size ∧
      Blk wr w2.heap.size 24 #[.int .i64 (5 + pos), .slice T (l.length - pos) ct] ∧ Sl wr lo up 1 T (l.length - pos) ct (byteCells (l.drop pos)))
  case atStart => exact ⟨0, 0, T, ct, w1.heap.size, w2.heap.size, Nat.zero_le _, by omega, rfl, rfl, rfl, Nat.le_refl _, ⟨.inl (by omega), by omega⟩, bb, by simp, .inl (Nat.le_refl _), by simp, bt, st⟩
  case round =>
    obtain ⟨i, pos, T, ct, lo, up, hpos, hg, rfl, rfl, rfl, hi, has, bb, z3, hlo, hup, bt, st⟩ := hrel
    have ⟨kc, ke⟩ := bt.rules
    by_cases hlt : pos < l.length
    · obtain ⟨d, hd⟩ : ∃ d, d = (l.drop pos).take k := ⟨_, rfl⟩
      have hdl : d.length = min k (l.length - pos) := by rw [hd, List.length_take, List.length_drop]
      have H1 := part_any (f := 5 + pos) (m := 5 + pos) (t := k) st hup (by omega)
      rw [kPart_all (by omega) (by omega) (by rw [List.length_drop]; omega) (by rw [List.length_drop]; omega) (by omega), Int.toNat_natCast, ← hd] at H1
      go_wp2_with fail
      refine H1.mono ?_
      clear H1
      rintro e w3 ⟨D, cd, rfl, sd, hb3⟩
      have HD := Lib.hid hd
      have HL := Lib.hid hdl
      have hdk : 1 ≤ d.length ∧ d.length + pos ≤ l.length := by omega
      clear hd hdl
      have bt := bt.later hb3
      have st := st.below hb3 hup
      have bb := bb.trans (hb3.mono bb.size)
      have z4 := hb3.size
      have H2 := take_any (t := 5 + pos) (g := 5 + pos) (n := d.length) sd (Nat.le_refl _) (by omega)
      rw [kTake_all (by omega) (by omega) (by omega)] at H2
      clear hb3
      go_wp2_with fail
      refine H2.mono ?_
      clear H2
      rintro e w4 ⟨X, cx, rfl, hX, hb4⟩
      have sX := Sl.of_own hX
      have bt := bt.later hb4
      have st := st.below hb4 (by omega)
      have bb := bb.trans (hb4.mono (by omega))
      have z5 := hb4.size
      clear hb4 hX
      have ⟨kc, ke⟩ := bt.rules
      have q1 := run_string_of (dst := 9) sX Try.underlying22 Try.underlying5 Try.underlying9
      go_wp2_with fail
      have H3 : Calls Try.prog 14 #[.agg #[.int .i64 (5 + pos), .slice T (l.length - pos) ct], .int .i64 (5 + pos + d.length)] w4 (RetTs w4 (5 + pos + d.length) (l.drop (pos + d.length))) := by
        have := acked_any (f := 5 + pos) (m := 5 + pos + d.length) st (by omega)
        rw [kAcked_all (by omega) (by omega) (by rw [List.length_drop]; omega) (by rw [List.length_drop]; omega), List.drop_drop] at this
        exact this
      refine H3.mono ?_
      clear H3
      rintro e w5 ⟨T2, ct2, rfl, st2, hb5⟩
      rw [List.length_drop] at st2 ⊢
      have z6 := hb5.size
      have bt5 := bt.later hb5
      have bt := (bt5.set_ 0 (.int .i64 (5 + pos + d.length))).set_ 1 (.slice T2 (l.length - (pos + d.length)) ct2)
      have st2 := (st2.setCell (p := ⟨w2.heap.size, 0, none⟩) (.inl (by simp; omega)) (.int .i64 (5 + pos + d.length))).setCell (p := ⟨w2.heap.size, 1, none⟩) (.inl (by simp; omega)) (.slice T2 (l.length - (pos + d.length)) ct2)
      have bb := ((bb.trans (hb5.mono (by omega))).setCell (p := ⟨w2.heap.size, 0, none⟩) (by simp; omega) (.int .i64 (5 + pos + d.length))).setCell (p := ⟨w2.heap.size, 1, none⟩) (by simp; omega) (.slice T2 (l.length - (pos + d.length)) ct2)
      have ⟨kc5, ke5⟩ := bt5.rules
      clear hb5 st kc ke
      go_wp2
      go_roundg (l.length - (pos + d.length))
      case measure => omega
      case rel =>
        have hd := HD.out
        have hdl := HL.out
        obtain ⟨h1, h2⟩ := has.out
        have e1 : l.take (pos + d.length) = l.take pos ++ d := by
          rw [List.take_add, hd]
          congr 1
          rw [List.length_take, ← List.take_eq_take_min]
        rw [bytes_add, ← e1]
        refine ⟨i + 1, pos + d.length, T2, ct2, w4.heap.size, w5.heap.size, by omega, rfl, by go_num, rfl, by go_num, by omega, ⟨?_, ?_⟩, bb, ?_, .inr (by omega), ?_, ?_, st2⟩
        · rw [Nat.succ_mul]; omega
        · rw [Nat.succ_mul]; omega
        · simp; omega
        · simp
        · rw [show (5 : Int) + ((pos + d.length : Nat) : Int) = 5 + pos + d.length from by omega]; exact bt
    · obtain rfl : pos = l.length := by omega
      simp only [Nat.sub_self, List.drop_length] at bt st kc
      have H1 := part_any (f := 5 + l.length) (m := 5 + l.length) (t := k) st hup (by omega)
      rw [kPart_end (by omega) (by omega)] at H1
      go_wp2_with fail
      refine H1.mono ?_
      clear H1
      rintro e w3 ⟨D, cd, rfl, sd, hb3⟩
      have bt := bt.later hb3
      have bb := bb.trans (hb3.mono bb.size)
      have ⟨kc, ke⟩ := bt.rules
      have q1 := run_string_of (dst := 9) (hr.below bb (Nat.le_refl _)) Try.underlying22 Try.underlying5 Try.underlying9
      obtain ⟨h1, h2⟩ := has.out
      have hdiv := all_count (len := l.length) (k := k) (i := i) (by omega) (by omega) h2
      have hdiv2 : ((l.length : Int) + k - 1) / k = i := by rw [show (l.length : Int) + k - 1 = ((l.length + k - 1 : Nat) : Int) from by omega, ← Int.natCast_ediv, hdiv]
      clear h1 h2 has hdiv
      go_wp2
      go_ret
      exact ⟨rfl, bb⟩
end Go.Proofs.Ytdiphckbnendlaa
