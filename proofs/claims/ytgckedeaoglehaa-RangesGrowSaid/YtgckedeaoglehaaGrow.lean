/- The walk of RangesGrow. -/
import Derived.Test.YtgckedeaoglehaaOrd
namespace Go.Proofs.Ytgckedeaoglehaa
open Go.RowKit
set_option linter.unusedVariables false
set_option linter.unusedSimpArgs false
attribute [local go_sem ↓] Go.wp_at_zero Go.wp_at_succ

theorem grown_alloc_size {w w3 : World} {o : Obj} {row : Option Nat} (h : (w.alloc o).grownBy w3 row) : w.heap.size + 1 ≤ w3.heap.size := by
  have := h.size
  rw [World.size_alloc] at this
  exact this
theorem turn_all : ∀ N < 17, N % 7 ≠ 0 → ∀ t < N, ∀ y < N, ∃ i < N, (i * 7 + t) % N = y := by decide +kernel
/-- The numbers, turned about; and backwards. -/
def gl (f : Int) (T N i : Nat) : List Int := (List.range i).map fun (j : Nat) => f + (((j * 7 + T) % N : Nat) : Int)
def gb (f : Int) (N i : Nat) : List Int := (List.range i).map fun (j : Nat) => f + (N : Int) - 1 - (j : Int)
theorem gl_succ (f : Int) (T N i : Nat) : gl f T N (i + 1) = gl f T N i ++ [f + ((i : Int) * 7 + (T : Int)) % (N : Int)] := by
  unfold gl
  rw [List.range_succ, List.map_append]
  simp
theorem gb_succ (f : Int) (N i : Nat) : gb f N (i + 1) = gb f N i ++ [f + (N : Int) - 1 - (i : Int)] := by
  unfold gb
  rw [List.range_succ, List.map_append]
  simp
theorem gl_mem {f : Int} {T N : Nat} (h1 : 1 ≤ N) (h2 : N ≤ 16) (h7 : N % 7 ≠ 0) (x : Int) : x ∈ gl f T N N ↔ f ≤ x ∧ x ≤ f + N - 1 := by
  unfold gl
  simp only [List.mem_map, List.mem_range]
  constructor
  · rintro ⟨j, _, rfl⟩
    have := Nat.mod_lt (j * 7 + T) (show N > 0 by omega)
    omega
  · rintro ⟨ha, hb⟩
    obtain ⟨i, hi, e⟩ := turn_all N (by omega) h7 (T % N) (Nat.mod_lt _ (by omega)) (x - f).toNat (by omega)
    refine ⟨i, hi, ?_⟩
    rw [Nat.add_mod, Nat.mod_mod, ← Nat.add_mod] at e
    omega
theorem gb_mem {f : Int} {N : Nat} (x : Int) : x ∈ gb f N N ↔ f ≤ x ∧ x ≤ f + N - 1 := by
  unfold gb
  simp only [List.mem_map, List.mem_range]
  constructor
  · rintro ⟨j, hj, rfl⟩
    omega
  · rintro ⟨ha, hb⟩
    exact ⟨(f + N - 1 - x).toNat, by omega, by omega⟩
theorem grow_facts {L : List Int} {f : Int} {N : Nat} (hf : 0 ≤ f ∧ f ≤ 65535) (h1 : 1 ≤ N) (h2 : N ≤ 16) (hl : L.length = N) (h : ∀ x, x ∈ L ↔ f ≤ x ∧ x ≤ f + N - 1) :
    iWf L ∧ rOfs L = [(f, f + N - 1)] ∧ rAdd [(f, f + N - 1)] f = [(f, f + N - 1)] ∧ rMany (rOf [(f, f + N - 1)]) = N ∧ rWf [(f, f + N - 1)] := by
  have hok : rOk [(f, f + (N : Int) - 1)] = true := by
    simp [rOk, rDescB]
    omega
  refine ⟨fun x hx => by have := (h x).1 hx; omega, grow_law hf.1 (by omega) (by omega) (by omega) h, ?_, ?_, rWf_desc (rOk_desc hok).1⟩
  · unfold rAdd
    rw [if_pos (by omega), rOf_ok hok, rIns_there (rOk_desc hok).1 ((rHas_cons _ _ _).2 (.inl ⟨Int.le_refl _, by simp only; omega⟩))]
    rfl
  · rw [rOf_ok hok]
    simp only [rMany, rSum]
    omega

set_option maxHeartbeats 8000000 in
set_option maxRecDepth 100000 in
theorem grow_turn {f x1 : Int} {T N : Nat} {w : World} (hf : 0 ≤ f ∧ f ≤ 65535) (hx : 0 ≤ x1 ∧ x1 ≤ 255) (hT : T ≤ 255) (hN : (1 : Int) + x1 % 16 = N) (h7 : N % 7 ≠ 0) :
    Calls Try.prog 7 #[.int .u16 f, .int .u8 x1, .int .u8 (T : Int)] w fun e w' => e = .returned (.bool true) ∧ Below w.heap.size w w' := by
  obtain ⟨i0, hi0, hz0, hz1, hz2⟩ := info_parts info3
  have h1 : 1 ≤ N := by omega
  have h2 : N ≤ 16 := by omega
  have H7 := Lib.hid h7
  have d7 : ((N : Int) % 7 == 0) = false := by simp; omega
  clear h7
  go_enter Try.func7, Try.ntmps7
  go_wp2_with fail
  refine (awake_any _).mono ?_
  rintro e w1 ⟨rfl, bb⟩
  have z1 := bb.size
  go_wp2_with fail
  clear hN
  go_loopg [9, 10] N (fun gh s9 s10 wr => ∃ (i : Nat) (A : Option Addr) (c : Nat), gh = N - i ∧ i ≤ N ∧ s9 = .slice A i c ∧ s10 = .int .i64 i ∧ wr.ownsRow w1.heap.size 3 1 (.slice A i c) i (intCells (gl f T N i)) ∧ Below w.heap.size w wr ∧ w1.heap.size ≤ wr.heap.size)
  case atStart => exact ⟨0, none, 0, by omega, by omega, rfl, rfl, World.ownsRow_nil _ _ _ _, bb, Nat.le_refl _⟩
  case round =>
    obtain ⟨i, A, c, hg, hi, rfl, rfl, hown, bb, hz⟩ := hrel
    by_cases h : i < N
    · have e1 := Int.emod_nonneg ((i : Int) * 7 + (T : Int)) (b := (N : Int)) (by omega)
      have e2 := Int.emod_lt_of_pos ((i : Int) * 7 + (T : Int)) (b := (N : Int)) (by omega)
      have Hs := Lib.hid (gl_succ f T N i)
      have n0 : ¬ (N : Int) = 0 := by omega
      go_wp2_with (at_builtin; refine wpList_append_sl _ rfl (.tmp 24) (.tmp 35) _ rfl w1.heap.size 3 i0 _ 1 8 Try.underlying29 hi0 hz0 hz1 hz2 rfl (by omega) (.slice A i c) i _ rfl (own_alloc hown _) wr.heap.size (wr.heap.size + 1) _ 1 1 _ rfl (sl_int (w := wr) (x := f + ((i : Int) * 7 + (T : Int)) % (N : Int)) rfl) (intCells_one _) (i + 1) rfl _ (intCells_append _ _).symm (by unfold maxLen; omega) (by omega) (by simp; omega) ?_; intro A3 c3 w3 hown3 hg3)
      go_roundg (N - (i + 1))
      case measure => omega
      case rel => exact ⟨i + 1, A3, c3, rfl, by omega, rfl, by simp, by rw [Hs.out]; exact hown3, (bb.alloc (by omega) _).grown hg3 (by simp; omega) (fun k hk => by have := (hown.lt k hk).1; omega), by have := grown_alloc_size hg3; omega⟩
    · obtain rfl : N = i := by omega
      have HF := grow_facts (L := gl f T N N) hf h1 h2 (by unfold gl; simp) (gl_mem h1 h2 H7.out)
      have Hm := Lib.hid (And.intro HF.2.2.1 HF.2.2.2.1)
      have HW := Lib.hid HF.2.2.2.2
      have H1 := Lib.hid (fun W lo up A' c' (h : Sl W lo up 1 A' N c' (intCells (gl f T N N))) hu => ofs_any (w := W) h hu (by omega) HF.1)
      rw [HF.2.1] at H1
      clear HF
      go_wp2_with fail
      refine (H1.out _ _ _ _ _ (Sl.of_own hown) (Nat.le_refl _)).mono ?_
      rintro e w2 ⟨A2, c2, rfl, hown2, hb2⟩
      have bb2 := bb.trans (hb2.mono bb.size)
      have s2 := Sl.of_own hown2
      clear hb2 hown2 hown
      go_wp2_with fail
      have q2 := add_any (x := f) s2 (Nat.le_refl _) (by simp) HW.out (by omega)
      rw [Hm.out.1] at q2
      refine q2.mono ?_
      clear q2
      rintro e w3 ⟨A3, c3, rfl, hown3, hb3⟩
      have bb3 := bb2.trans (hb3.mono bb2.size)
      have z3 := hb3.size
      have s2 := s2.below hb3 (Nat.le_refl _)
      have s3 := Sl.of_own hown3
      clear hb3 hown3
      go_wp2_with fail
      have s2a := s2.alloc (by omega) (.cells #[.int .i64 f, .int .i64 (f + (N : Int) - 1)] 34)
      have s3a := s3.alloc (Nat.le_refl _) (.cells #[.int .i64 f, .int .i64 (f + (N : Int) - 1)] 34)
      have bba := bb3.alloc bb3.size (.cells #[.int .i64 f, .int .i64 (f + (N : Int) - 1)] 34)
      refine (same_any s2a (Sl.new w3 34 #[.int .i64 f, .int .i64 (f + (N : Int) - 1)] 2 1 1 (rCells [(f, f + (N : Int) - 1)]) rfl (by omega) rfl rfl) (by simp) (by omega) true (by simp)).mono ?_
      rintro e w4 ⟨rfl, hb4⟩
      have z4 := hb4.size
      simp only [World.size_alloc] at z4
      have s2 := s2a.below hb4 (by simp; omega)
      have s3 := s3a.below hb4 (by simp)
      have bb4 := bba.trans (hb4.mono (by simp; have := bb3.size; omega))
      clear hb4 s2a s3a bba
      go_wp2_with fail
      refine (same_any s2 s3 (by simp) (by simp) true (by simp)).mono ?_
      rintro e w5 ⟨rfl, hb5⟩
      have bb5 := bb4.trans (hb5.mono bb4.size)
      have z5 := hb5.size
      have s2 := s2.below hb5 (by omega)
      clear hb5 s3
      go_wp2_with fail
      have q3 := many_any s2 (by omega) (by simp) HW.out
      rw [Hm.out.2] at q3
      refine q3.mono ?_
      clear q3
      rintro e w6 ⟨rfl, hb6⟩
      have bb6 := bb5.trans (hb6.mono bb5.size)
      clear hb6
      go_wp2
      go_ret
      exact ⟨rfl, bb6⟩

set_option maxHeartbeats 8000000 in
set_option maxRecDepth 100000 in
theorem grow_back {f x1 : Int} {T N : Nat} {w : World} (hf : 0 ≤ f ∧ f ≤ 65535) (hx : 0 ≤ x1 ∧ x1 ≤ 255) (hT : T ≤ 255) (hN : (1 : Int) + x1 % 16 = N) (h7 : N % 7 = 0) :
    Calls Try.prog 7 #[.int .u16 f, .int .u8 x1, .int .u8 (T : Int)] w fun e w' => e = .returned (.bool true) ∧ Below w.heap.size w w' := by
  obtain ⟨i0, hi0, hz0, hz1, hz2⟩ := info_parts info3
  have h1 : 1 ≤ N := by omega
  have h2 : N ≤ 16 := by omega
  have H7 := Lib.hid h7
  have d7 : ((N : Int) % 7 == 0) = true := by simp; omega
  clear h7
  go_enter Try.func7, Try.ntmps7
  go_wp2_with fail
  refine (awake_any _).mono ?_
  rintro e w1 ⟨rfl, bb⟩
  have z1 := bb.size
  go_wp2_with fail
  clear hN
  go_loopg [9, 10] N (fun gh s9 s10 wr => ∃ (i : Nat) (A : Option Addr) (c : Nat), gh = N - i ∧ i ≤ N ∧ s9 = .slice A i c ∧ s10 = .int .i64 i ∧ wr.ownsRow w1.heap.size 3 1 (.slice A i c) i (intCells (gl f T N i)) ∧ Below w.heap.size w wr ∧ w1.heap.size ≤ wr.heap.size)
  case atStart => exact ⟨0, none, 0, by omega, by omega, rfl, rfl, World.ownsRow_nil _ _ _ _, bb, Nat.le_refl _⟩
  case round =>
    obtain ⟨i, A, c, hg, hi, rfl, rfl, hown, bb, hz⟩ := hrel
    by_cases h : i < N
    · have e1 := Int.emod_nonneg ((i : Int) * 7 + (T : Int)) (b := (N : Int)) (by omega)
      have e2 := Int.emod_lt_of_pos ((i : Int) * 7 + (T : Int)) (b := (N : Int)) (by omega)
      have Hs := Lib.hid (gl_succ f T N i)
      have n0 : ¬ (N : Int) = 0 := by omega
      go_wp2_with (at_builtin; refine wpList_append_sl _ rfl (.tmp 24) (.tmp 35) _ rfl w1.heap.size 3 i0 _ 1 8 Try.underlying29 hi0 hz0 hz1 hz2 rfl (by omega) (.slice A i c) i _ rfl (own_alloc hown _) wr.heap.size (wr.heap.size + 1) _ 1 1 _ rfl (sl_int (w := wr) (x := f + ((i : Int) * 7 + (T : Int)) % (N : Int)) rfl) (intCells_one _) (i + 1) rfl _ (intCells_append _ _).symm (by unfold maxLen; omega) (by omega) (by simp; omega) ?_; intro A3 c3 w3 hown3 hg3)
      go_roundg (N - (i + 1))
      case measure => omega
      case rel => exact ⟨i + 1, A3, c3, rfl, by omega, rfl, by simp, by rw [Hs.out]; exact hown3, (bb.alloc (by omega) _).grown hg3 (by simp; omega) (fun k hk => by have := (hown.lt k hk).1; omega), by have := grown_alloc_size hg3; omega⟩
    · obtain rfl : N = i := by omega
      clear hown
      go_wp2_with fail
      obtain ⟨wo, rfl⟩ : ∃ wo, wo = wr := ⟨_, rfl⟩
      go_loopg [9, 11] N (fun gh s9 s10 wr => ∃ (i : Nat) (A : Option Addr) (c : Nat), gh = N - i ∧ i ≤ N ∧ s9 = .slice A i c ∧ s10 = .int .i64 i ∧ wr.ownsRow w1.heap.size 3 1 (.slice A i c) i (intCells (gb f N i)) ∧ Below w.heap.size w wr ∧ w1.heap.size ≤ wr.heap.size)
      case atStart => exact ⟨0, none, 0, by omega, by omega, rfl, rfl, World.ownsRow_nil _ _ _ _, bb, hz⟩
      case round =>
        clear bb hz
        obtain ⟨i, A, c, hg, hi, rfl, rfl, hown, bb, hz⟩ := hrel
        by_cases h : i < N
        · have Hs := Lib.hid (gb_succ f N i)
          go_wp2_with (at_builtin; refine wpList_append_sl _ rfl (.tmp 45) (.tmp 53) _ rfl w1.heap.size 3 i0 _ 1 8 Try.underlying29 hi0 hz0 hz1 hz2 rfl (by omega) (.slice A i c) i _ rfl (own_alloc hown _) wr.heap.size (wr.heap.size + 1) _ 1 1 _ rfl (sl_int (w := wr) (x := f + (N : Int) - 1 - (i : Int)) rfl) (intCells_one _) (i + 1) rfl _ (intCells_append _ _).symm (by unfold maxLen; omega) (by omega) (by simp; omega) ?_; intro A3 c3 w3 hown3 hg3)
          go_roundg (N - (i + 1))
          case measure => omega
          case rel => exact ⟨i + 1, A3, c3, rfl, by omega, rfl, by simp, by rw [Hs.out]; exact hown3, (bb.alloc (by omega) _).grown hg3 (by simp; omega) (fun k hk => by have := (hown.lt k hk).1; omega), by have := grown_alloc_size hg3; omega⟩
        · obtain rfl : N = i := by omega
          have HF := grow_facts (L := gb f N N) hf h1 h2 (by unfold gb; simp) (gb_mem)
          have Hm := Lib.hid (And.intro HF.2.2.1 HF.2.2.2.1)
          have HW := Lib.hid HF.2.2.2.2
          have H1 := Lib.hid (fun W lo up A' c' (h : Sl W lo up 1 A' N c' (intCells (gb f N N))) hu => ofs_any (w := W) h hu (by omega) HF.1)
          rw [HF.2.1] at H1
          clear HF
          go_wp2_with fail
          refine (H1.out _ _ _ _ _ (Sl.of_own hown) (Nat.le_refl _)).mono ?_
          rintro e w2 ⟨A2, c2, rfl, hown2, hb2⟩
          have bb2 := bb.trans (hb2.mono bb.size)
          have s2 := Sl.of_own hown2
          clear hb2 hown2 hown
          go_wp2_with fail
          have q2 := add_any (x := f) s2 (Nat.le_refl _) (by simp) HW.out (by omega)
          rw [Hm.out.1] at q2
          refine q2.mono ?_
          clear q2
          rintro e w3 ⟨A3, c3, rfl, hown3, hb3⟩
          have bb3 := bb2.trans (hb3.mono bb2.size)
          have z3 := hb3.size
          have s2 := s2.below hb3 (Nat.le_refl _)
          have s3 := Sl.of_own hown3
          clear hb3 hown3
          go_wp2_with fail
          have s2a := s2.alloc (by omega) (.cells #[.int .i64 f, .int .i64 (f + (N : Int) - 1)] 34)
          have s3a := s3.alloc (Nat.le_refl _) (.cells #[.int .i64 f, .int .i64 (f + (N : Int) - 1)] 34)
          have bba := bb3.alloc bb3.size (.cells #[.int .i64 f, .int .i64 (f + (N : Int) - 1)] 34)
          refine (same_any s2a (Sl.new w3 34 #[.int .i64 f, .int .i64 (f + (N : Int) - 1)] 2 1 1 (rCells [(f, f + (N : Int) - 1)]) rfl (by omega) rfl rfl) (by simp) (by omega) true (by simp)).mono ?_
          rintro e w4 ⟨rfl, hb4⟩
          have z4 := hb4.size
          simp only [World.size_alloc] at z4
          have s2 := s2a.below hb4 (by simp; omega)
          have s3 := s3a.below hb4 (by simp)
          have bb4 := bba.trans (hb4.mono (by simp; have := bb3.size; omega))
          clear hb4 s2a s3a bba
          go_wp2_with fail
          refine (same_any s2 s3 (by simp) (by simp) true (by simp)).mono ?_
          rintro e w5 ⟨rfl, hb5⟩
          have bb5 := bb4.trans (hb5.mono bb4.size)
          have z5 := hb5.size
          have s2 := s2.below hb5 (by omega)
          clear hb5 s3
          go_wp2_with fail
          have q3 := many_any s2 (by omega) (by simp) HW.out
          rw [Hm.out.2] at q3
          refine q3.mono ?_
          clear q3
          rintro e w6 ⟨rfl, hb6⟩
          have bb6 := bb5.trans (hb6.mono bb5.size)
          clear hb6
          go_wp2
          go_ret
          exact ⟨rfl, bb6⟩

theorem grow_any {f x1 x2 : Int} {w : World} (hf : 0 ≤ f ∧ f ≤ 65535) (hx : 0 ≤ x1 ∧ x1 ≤ 255) (hx2 : 0 ≤ x2 ∧ x2 ≤ 255) :
    Calls Try.prog 7 #[.int .u16 f, .int .u8 x1, .int .u8 x2] w fun e w' => e = .returned (.bool true) ∧ Below w.heap.size w w' := by
  obtain ⟨T, rfl⟩ : ∃ T : Nat, x2 = (T : Int) := ⟨x2.toNat, by omega⟩
  by_cases h : (1 + x1 % 16).toNat % 7 = 0
  · exact grow_back (N := (1 + x1 % 16).toNat) hf hx (by omega) (by omega) h
  · exact grow_turn (N := (1 + x1 % 16).toNat) hf hx (by omega) (by omega) h
end Go.Proofs.Ytgckedeaoglehaa
