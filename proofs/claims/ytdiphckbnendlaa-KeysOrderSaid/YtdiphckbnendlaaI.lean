/- The calls at every statement's head. -/
import Derived.Test.YtdiphckbnendlaaC
import Derived.Test.YtdiphckbnendlaaG
import Derived.Test.YtdiphckbnendlaaH
import Derived.Test.YtdiphckbnendlaaE
import Derived.Deep.DeepCutAuto
namespace Go.Proofs.Ytdiphckbnendlaa
set_option linter.unusedVariables false
open Go.RowKit
attribute [local go_sem ↓] Go.wp_at_zero Go.wp_at_succ

/-- Part's place. -/
def kAt (f : Int) (l : List UInt8) (m : Int) : Nat := if m < (kOf f l).1 ∨ (kOf f l).1 + (kOf f l).2.length < m then 0 else (m - (kOf f l).1).toNat
/-- Part. -/
def kPart (f : Int) (l : List UInt8) (m t : Int) : Int × List UInt8 × Bool :=
  if kAt f l m < (kOf f l).2.length ∧ 0 < t then ((kOf f l).1 + kAt f l m, ((kOf f l).2.drop (kAt f l m)).take t.toNat, true) else (0, [], false)

theorem part_any {lo up : Nat} {f m t : Int} {A : Option Addr} {n c : Nat} {l : List UInt8} {w : World} (hr : Sl w lo up 1 A n c (byteCells l)) (hup : up ≤ w.heap.size) (ht : -9223372036854775808 ≤ t ∧ t ≤ 9223372036854775807) :
    Calls Try.prog 11 #[.agg #[.int .i64 f, .slice A n c], .int .i64 m, .int .i64 t] w (RetP w (kPart f l m t).1 (kPart f l m t).2.1 (kPart f l m t).2.2) := by
  unfold kPart kAt
  by_cases h : m < (kOf f l).1 ∨ (kOf f l).1 + (kOf f l).2.length < m
  · simp only [if_pos h]
    by_cases hb : 0 < (kOf f l).2.length ∧ 0 < t
    · simp only [if_pos hb, List.drop_zero, Int.natCast_zero, Int.add_zero]
      by_cases hlt : t < (kOf f l).2.length
      · exact part_out hr hup t.toNat h ht (by rw [if_pos hlt]; omega) (by omega)
      · rw [List.take_of_length_le (by omega)]
        have := part_out hr hup (kOf f l).2.length h ht (by rw [if_neg hlt]) hb.1
        rwa [List.take_length] at this
    · simp only [if_neg hb]
      exact part_none hr hup (.inl ⟨h, by omega⟩) ht
  · simp only [if_neg h]
    obtain ⟨k, rfl⟩ : ∃ k : Nat, m = (kOf f l).1 + k := ⟨(m - (kOf f l).1).toNat, by omega⟩
    rw [show ((kOf f l).1 + (k : Int) - (kOf f l).1).toNat = k from by omega]
    by_cases hb : k < (kOf f l).2.length ∧ 0 < t
    · simp only [if_pos hb]
      by_cases hlt : t < ((kOf f l).2.length : Int) - k
      · exact part_in (f := f) hr hup k t.toNat (by omega) ht (by rw [if_pos hlt]; omega) (by omega)
      · have hl := List.length_drop (i := k) (l := (kOf f l).2)
        rw [List.take_of_length_le (by omega)]
        have := part_in (f := f) hr hup k ((kOf f l).2.length - k) (by omega) ht (by rw [if_neg hlt]; omega) (by omega)
        rwa [List.take_of_length_le (by omega)] at this
    · simp only [if_neg hb]
      exact part_none hr hup (.inr ⟨by omega, by omega, by omega⟩) ht
theorem rpart_any {lo up : Nat} {f m t : Int} {A : Option Addr} {n c : Nat} {l : List UInt8} {w : World} (hr : Sl w lo up 1 A n c (byteCells l)) (hup : up ≤ w.heap.size) :
    Calls Try.prog 12 #[.agg #[.int .i64 f, .slice A n c], .int .i64 m, .int .i64 t] w (RetP w (kPart f l m t).1 (kPart f l m t).2.1 (kPart f l m t).2.2) := by
  unfold kPart kAt
  by_cases h : m < (kOf f l).1 ∨ (kOf f l).1 + (kOf f l).2.length < m
  · simp only [if_pos h]
    by_cases hb : 0 < (kOf f l).2.length ∧ 0 < t
    · simp only [if_pos hb, List.drop_zero, Int.natCast_zero, Int.add_zero]
      by_cases hlt : t < (kOf f l).2.length
      · exact rpart_out hr hup t.toNat h (by rw [if_pos hlt]; omega) (by omega)
      · rw [List.take_of_length_le (by omega)]
        have := rpart_out hr hup (kOf f l).2.length h (t := t) (by rw [if_neg hlt]) hb.1
        rwa [List.take_length] at this
    · simp only [if_neg hb]
      exact rpart_none hr hup (.inl ⟨h, by omega⟩)
  · simp only [if_neg h]
    obtain ⟨k, rfl⟩ : ∃ k : Nat, m = (kOf f l).1 + k := ⟨(m - (kOf f l).1).toNat, by omega⟩
    rw [show ((kOf f l).1 + (k : Int) - (kOf f l).1).toNat = k from by omega]
    by_cases hb : k < (kOf f l).2.length ∧ 0 < t
    · simp only [if_pos hb]
      obtain ⟨r, hr'⟩ : ∃ r, k + r = (kOf f l).2.length := ⟨(kOf f l).2.length - k, by omega⟩
      by_cases hlt : t < (r : Int)
      · exact rpart_in hr hup k r t.toNat hr' (by rw [if_pos hlt]; omega) (by omega)
      · have hl := List.length_drop (i := k) (l := (kOf f l).2)
        rw [List.take_of_length_le (by omega)]
        have := rpart_in hr hup k r r hr' (t := t) (by rw [if_neg hlt]) (by omega)
        rwa [List.take_of_length_le (by omega)] at this
    · simp only [if_neg hb]
      exact rpart_none hr hup (.inr ⟨by omega, by omega, by omega⟩)

/-- Sixty-one empty bytes. -/
def zs61 : Array Value := (byteCells (List.replicate 61 0)).toArray

theorem zs_new {W : World} {g : Nat} (hg : W.heap.size = g) : Sl (W.alloc (.cells zs61 5)) g (g + 1) 1 (some ⟨g, 0, none⟩) 61 61 (byteCells (List.replicate 61 0)) :=
  Sl.new W 5 zs61 1 61 61 _ hg (Nat.le_refl _) (by simp [byteCells]) (by simp [zs61])
theorem ktype1 : kType 0 [] [97, 98, 99, 100] = (0, [97, 98, 99, 100], 0) := by decide
theorem ktype2 : kType 0 [97, 98, 99, 100] (List.replicate 61 0) = (0, [97, 98, 99, 100], 210) := by decide
theorem kpart1 : kPart 0 [97, 98, 99, 100] 1 2 = (1, [98, 99], true) := by decide
theorem kacked1 : kAcked 0 [97, 98, 99, 100] 3 = (3, [100]) := by decide
theorem ktake1 : kTake 2 0 [97, 98, 99, 100] = (4, [99, 100]) := by decide
theorem ktake2 : kTake 2 3 [120, 121] = (2, []) := by decide

set_option maxRecDepth 100000 in
set_option maxHeartbeats 4000000 in
theorem awake_any (w : World) : Calls Try.prog 8 #[] w fun e w' => e = .returned (.bool true) ∧ Below w.heap.size w w' := by
  have hmk : ∀ w : World, (Instr.makeSlice 22 (.int .i64 61) (.int .i64 61)).run Try.prog w = .ok (.slice (some ⟨w.heap.size, 0, none⟩) 61 61) (w.alloc (.cells zs61 5)) := fun _ => by kernel_rfl
  go_enter Try.func8, Try.ntmps8
  go_wp2_with fail
  have s0 : Sl (w.alloc (.cells #[.int .u8 97, .int .u8 98, .int .u8 99, .int .u8 100] 5)) w.heap.size (w.heap.size + 1) 1 (some ⟨w.heap.size, 0, none⟩) 4 4 (byteCells [97, 98, 99, 100]) := Sl.new w 5 _ 1 4 4 _ rfl (by omega) rfl rfl
  have c1 := type_any (f := 0) (A := none) (n := 0) (c := 0) (l := []) (Sl.empty _ 0 0 1) (Nat.zero_le _) s0 (by simp) (by omega)
  rw [ktype1] at c1
  refine c1.mono ?_
  rintro e w1 ⟨A1, c1, rfl, hown1, hb1⟩
  have bb := ((Below.refl w.heap.size w).alloc (Nat.le_refl _) _).trans (hb1.mono (by simp))
  have hs := bb.size
  have hs1 : w.heap.size + 1 ≤ w1.heap.size := by have := hb1.size; simp at this; omega
  have s1 := ((Sl.of_own hown1).more (lo' := w.heap.size + 1) (by simp) (Nat.le_refl _)).alloc (Nat.le_refl _) (.cells #[.int .i64 0, .slice A1 4 c1] 24)
  have b1 := Blk.new w1 24 #[.int .i64 0, .slice A1 4 c1] rfl
  clear hb1 s0 hown1
  go_wp2_with fail
  go_cut [4] (fun s4 wx => s4 = .int .i64 210 ∧ Below w.heap.size w wx ∧ Blk wx w1.heap.size 24 #[.int .i64 0, .slice A1 4 c1] ∧ Sl wx (w.heap.size + 1) w1.heap.size 1 A1 4 c1 (byteCells [97, 98, 99, 100]) ∧ w1.heap.size + 1 ≤ wx.heap.size)
  case first =>
    have c2 := fun W (h : Sl W (w.heap.size + 1) w1.heap.size 1 A1 4 c1 (byteCells [97, 98, 99, 100])) (hW : w1.heap.size ≤ W.heap.size) g (h2 : Sl W g (g + 1) 1 (some ⟨g, 0, none⟩) 61 61 (byteCells (List.replicate 61 0))) (hg : g + 1 ≤ W.heap.size) => type_any (f := 0) h hW h2 hg (by omega)
    rw [ktype2] at c2
    have C2 := Lib.hid c2
    clear c2
    go_region_held3 (fun w' => w'.cell? ⟨w1.heap.size, 0, none⟩ = some (.int .i64 0) ∧ w'.cell? ⟨w1.heap.size, 1, none⟩ = some (.slice A1 4 c1)) (first | exact ⟨b1.rules.1 0, b1.rules.1 1⟩ | exact ⟨k1.rules.1 0, k1.rules.1 1⟩ | exact ⟨(k1.alloc _).rules.1 0, (k1.alloc _).rules.1 1⟩ | exact ⟨(b1.alloc _).rules.1 0, (b1.alloc _).rules.1 1⟩ | exact ⟨((b1.alloc _).alloc _).rules.1 0, ((b1.alloc _).alloc _).rules.1 1⟩ | exact ⟨((k1.far (by simp <;> omega) _).far (by simp <;> omega) _).rules.1 0, ((k1.far (by simp <;> omega) _).far (by simp <;> omega) _).rules.1 1⟩ | go_keep)
      ((go_at_call 9; refine (C2.out _ (by first | exact s1.drew | exact (s1.alloc (by simp <;> omega) _).drew | exact ((s1.alloc (by simp <;> omega) _).alloc (by simp <;> omega) _).drew) (by simp <;> omega) _ (by first | exact (zs_new (by simp <;> omega)).drew | exact ((zs_new (by simp <;> omega)).alloc (by simp <;> omega) _).drew) (by simp <;> omega)).mono ?_; rintro e w2 ⟨A2, c2, rfl, hown2, hb2⟩; have k1 : Blk w2 w1.heap.size 24 #[.int .i64 0, .slice A1 4 c1] := Blk.later (by first | exact b1.alloc _ | exact (b1.alloc _).alloc _) hb2; (try (have k3 : Blk w2 (w1.heap.size + 1) 24 #[.int .i64 0, .slice none 0 0] := Blk.later (by exact (Blk.new _ _ _ (by simp)).alloc _) hb2; have ⟨kc3, ke3⟩ := k3.rules)); (try (have k4 : Blk w2 (w1.heap.size + 1 + 1) 24 #[.int .i64 0, .slice none 0 0] := Blk.later (by exact (Blk.new _ _ _ (by simp))) hb2; have ⟨kc4, ke4⟩ := k4.rules)); have s2 : Sl w2 (w.heap.size + 1) w1.heap.size 1 A1 4 c1 (byteCells [97, 98, 99, 100]) := Sl.below (by first | exact s1.drew | exact (s1.alloc (by simp <;> omega) _).drew | exact ((s1.alloc (by simp <;> omega) _).alloc (by simp <;> omega) _).drew) hb2 (by simp <;> omega); have bb2 : Below w.heap.size w w2 := Below.trans (by first | exact ((bb.alloc hs _).alloc (by simp <;> omega) _).drew | exact (((bb.alloc hs _).alloc (by simp <;> omega) _).alloc (by simp <;> omega) _).drew) (hb2.mono (by simp <;> omega)); have hz2 : w1.heap.size + 2 ≤ w2.heap.size := by (have := hb2.size; simp at this; omega)))
    all_goals
      go_wp2_with fail
      go_meet
      first
        | exact ⟨rfl, bb2.alloc (by omega) _, k1.alloc _, s2.alloc (by omega) _, by simp <;> omega⟩
        | exact ⟨rfl, (bb2.setCell (by simp <;> omega) _).setCell (by simp <;> omega) _, (k1.far (by simp <;> omega) _).far (by simp <;> omega) _, (s2.setCell (.inr (by simp <;> omega)) _).setCell (.inr (by simp <;> omega)) _, by simp <;> omega⟩
  case rest =>
    obtain ⟨rfl, bb, b1, s1, hs2⟩ := hcut
    have ⟨kc, ke⟩ := b1.rules
    go_wp2_with fail
    have H3 := part_any (f := 0) (m := 1) (t := 2) s1 (by omega) (by omega)
    rw [kpart1] at H3
    refine H3.mono ?_
    rintro e w3 ⟨A3, c3, rfl, s3, hb3⟩
    have b1 := b1.later hb3
    have s1 := s1.below hb3 (by omega)
    have bb := bb.trans (hb3.mono (by omega))
    have hs3 := hb3.size
    have s3 : Sl w3 (w1.heap.size + 1) w3.heap.size 1 A3 2 c3 (byteCells [98, 99]) := s3.more (by omega) (Nat.le_refl _)
    clear kc ke hb3 H3
    have ⟨kc, ke⟩ := b1.rules
    go_wp2_with fail
    have H4 := acked_any (f := 0) (m := 3) s1 (by omega)
    rw [kacked1] at H4
    refine H4.mono ?_
    rintro e w4 ⟨A4, c4, rfl, s4, hb4⟩
    have bb := bb.trans (hb4.mono (by omega))
    have hs4 := hb4.size
    have s3 := (s3.below hb4 (Nat.le_refl _)).alloc (by omega) (.cells #[.int .i64 3, .slice A4 1 c4] 24)
    have s4 : Sl (w4.alloc (.cells #[.int .i64 3, .slice A4 1 c4] 24)) (w1.heap.size + 1) w4.heap.size 1 A4 1 c4 (byteCells [100]) := (s4.more (by omega) (Nat.le_refl _)).alloc (Nat.le_refl _) (.cells #[.int .i64 3, .slice A4 1 c4] 24)
    have b4 := Blk.new w4 24 #[.int .i64 3, .slice A4 1 c4] rfl
    have bb := bb.alloc (by omega) (.cells #[.int .i64 3, .slice A4 1 c4] 24)
    clear kc ke hb4 H4 b1 s1
    have kv := Lib.run_convert_bytes_const (P := Try.prog) (w4.alloc (.cells #[.int .i64 3, .slice A4 1 c4] 24)) 22 5 #[.int .u8 97, .int .u8 98, .int .u8 99, .int .u8 100] 4 4 Try.underlying22 Try.underlying5
    simp only [World.size_alloc, List.size_toArray, List.length_cons, List.length_nil, Nat.zero_add, Nat.reduceAdd] at kv
    have s0 : Sl ((w4.alloc (.cells #[.int .i64 3, .slice A4 1 c4] 24)).alloc (.cells #[.int .u8 97, .int .u8 98, .int .u8 99, .int .u8 100] 5 (4, 5))) (w4.heap.size + 1) (w4.heap.size + 1 + 1) 1 (some ⟨w4.heap.size + 1, 0, none⟩) 4 4 (byteCells [97, 98, 99, 100]) := Sl.newM _ 5 _ _ 1 4 4 _ (by simp) (by omega) rfl rfl
    go_wp2_with fail
    have H5 := take_any (t := 2) (g := 0) s0 (by simp) (by omega)
    rw [ktake1] at H5
    refine H5.mono ?_
    rintro e w5 ⟨A5, c5, rfl, hown5, hb5⟩
    have hs5 : w4.heap.size + 2 ≤ w5.heap.size := by have := hb5.size; simp at this; omega
    have bb := (bb.alloc (by simp; omega) _).trans (hb5.mono (by simp; omega))
    have s3 := (s3.alloc (by simp; omega) _).below hb5 (by simp; omega)
    have s4 := (s4.alloc (by simp) _).below hb5 (by simp; omega)
    have b4 := (b4.alloc _).later hb5
    have s5 : Sl w5 (w4.heap.size + 1) w5.heap.size 1 A5 2 c5 (byteCells [99, 100]) := (Sl.of_own hown5).more (by simp) (Nat.le_refl _)
    clear hb5 H5 kv hown5 s0
    have kv := Lib.run_convert_bytes_const (P := Try.prog) w5 22 5 #[.int .u8 120, .int .u8 121] 2 2 Try.underlying22 Try.underlying5
    simp only [List.size_toArray, List.length_cons, List.length_nil, Nat.zero_add, Nat.reduceAdd] at kv
    have s0 : Sl (w5.alloc (.cells #[.int .u8 120, .int .u8 121] 5 (2, 3))) w5.heap.size (w5.heap.size + 1) 1 (some ⟨w5.heap.size, 0, none⟩) 2 2 (byteCells [120, 121]) := Sl.newM _ 5 _ _ 1 2 2 _ rfl (by omega) rfl rfl
    go_wp2_with fail
    have H6 := take_any (t := 2) (g := 3) s0 (by simp) (by omega)
    rw [ktake2] at H6
    refine H6.mono ?_
    rintro e w6 ⟨A6, c6, rfl, hown6, hb6⟩
    have bb := (bb.alloc (by omega) _).trans (hb6.mono (by simp; omega))
    have s3 := (s3.alloc (by omega) _).below hb6 (by simp; omega)
    have s4 := (s4.alloc (by omega) _).below hb6 (by simp; omega)
    have s5 := (s5.alloc (by omega) _).below hb6 (by simp)
    have b4 := (b4.alloc _).later hb6
    clear hb6 H6 kv hown6 s0
    have ⟨kc, ke⟩ := b4.rules
    have q3 := run_string_of (dst := 9) s3 Try.underlying22 Try.underlying5 Try.underlying9
    have q4 := run_string_of (dst := 9) s4 Try.underlying22 Try.underlying5 Try.underlying9
    have q5 := run_string_of (dst := 9) s5 Try.underlying22 Try.underlying5 Try.underlying9
    go_wp2
    go_ret
    exact ⟨rfl, bb⟩
end Go.Proofs.Ytdiphckbnendlaa
