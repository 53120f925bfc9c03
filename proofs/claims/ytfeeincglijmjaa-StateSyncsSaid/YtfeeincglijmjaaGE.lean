/- Texts of this seat, one behind the other. -/
import Derived.Test.YtfeeincglijmjaaGM
namespace Go.Proofs.Ytfeeincglijmjaa
open Go.RowKit
set_option linter.unusedVariables false
set_option linter.unusedSimpArgs false
attribute [local go_sem ↓] Go.wp_at_zero Go.wp_at_succ

set_option maxRecDepth 100000 in
theorem clonec_any {lo up : Nat} {A : Option Addr} {n c : Nat} {l : List (Int × Int)} {w : World} (hr : Sl w lo up 2 A n c (cCells l)) (hup : up ≤ w.heap.size) (hn : n ≤ 1000000) :
    Calls Try.prog 98 #[.slice A n c] w (RetC w l) := by
  have hl := slc_len hr
  obtain ⟨i0, hi0, hz0, hz1, hz2⟩ := info_parts info64
  rcases A with _ | ad
  · have hc := hr.nil rfl
    have hle := hr.le
    obtain rfl : c = 0 := hc
    obtain rfl : n = 0 := by omega
    obtain rfl : l = [] := List.eq_nil_of_length_eq_zero hl.symm
    have q : ∀ (w : World), (binOp .eql 32 (.slice none 0 0) (.slice none 0 0)).run Try.prog w = .ok (.bool true) w := fun w => Lib.run_eql_slice_nil w _ _ none 0 0 0 0 Try.underlying32
    clear hl hle hn hi0 hz0 hz1 hz2 hr hup
    go_enter Try.func98, Try.ntmps98
    go_wp2
    go_ret
    exact ⟨none, 0, rfl, World.ownsRow_nil _ _ _ _, Below.refl _ _⟩
  · subst hl
    have q : ∀ (w : World), (binOp .eql 32 (.slice (some ad) l.length c) (.slice none 0 0)).run Try.prog w = .ok (.bool false) w := fun w => Lib.run_eql_slice_nil w _ _ (some ad) l.length c 0 0 Try.underlying32
    go_enter Try.func98, Try.ntmps98
    go_wp2_with (at_builtin; refine wpList_append_sl _ rfl (.tmp 5) (.tmp 6) _ rfl w.heap.size 64 i0 _ 2 16 Try.underlying32 hi0 hz0 hz1 hz2 rfl (by omega) (.slice (some ⟨w.heap.size, 0, none⟩) 0 0) 0 [] rfl (own_made rfl (Nat.le_refl _)) lo up _ l.length c _ rfl (hr.alloc hup _) (cCells_one l) l.length (by omega) _ rfl (by unfold maxLen; omega) (by omega) (by simp) ?_; intro A' c' w' hown hg)
    go_ret
    exact ⟨A', c', rfl, hown, ((Below.refl _ _).alloc (Nat.le_refl _) _).grown hg (by simp) (fun k hk => by simp [Value.ownBlock] at hk; omega)⟩

/-- What a screen of the callee's own is handed back as. -/
def RetS (w : World) (s : Scr) (e : Ending) (w' : World) : Prop :=
  ∃ C cc M cm, e = .returned (.agg (s.v C cc M cm)) ∧ ScrAt w' w.heap.size w'.heap.size s C cc M cm ∧ Below w.heap.size w w'
/-- A screen that may be, or none. -/
def gCopy (s : Scr) : Scr := if gOk s then s else noScr

theorem nothing_any (g : Nat) (w : World) : Calls Try.prog 70 #[.pointer (some ⟨g, 0, none⟩)] w fun e w' => e = .returned (.tuple #[]) ∧ w' = w := by
  go_enter Try.func70, Try.ntmps70
  go_wp2
  exact ⟨rfl, .tuple #[], by simp [results, Try.results70, go_sem], rfl, rfl⟩

set_option maxHeartbeats 4000000 in
set_option maxRecDepth 100000 in
theorem done_no {lo up : Nat} {s : Scr} {C M : Option Addr} {cc cm : Nat} {w : World} (hat : ScrAt w lo up s C cc M cm) (hup : up ≤ w.heap.size) (hl : s.Len) (h : gOk s = false) (f : Value) :
    Calls Try.prog 69 #[.agg (s.v C cc M cm), f] w (RetS w noScr) := by
  have HC := Lib.hid (fun W (b : Below w.heap.size w W) => check_bad (hat.below b hup) (Nat.le_trans hup b.size) hl h)
  obtain ⟨W, H, X, Y, At, Tp, Bt, wr, au, hi, al, s0, s1, s2, cs, ms⟩ := s
  unfold Scr.v at HC ⊢
  simp only at HC ⊢
  clear h hl hat
  have bb := ((Below.refl w.heap.size w).alloc (Nat.le_refl _) (.cells #[.int .i64 W, .int .i64 H, .slice C cs.length cc, .int .i64 X, .int .i64 Y, .int .i64 At, .int .i64 Tp, .int .i64 Bt, .bool wr, .bool au, .bool hi, .bool al, .int .i64 s0, .int .i64 s1, .int .i64 s2, .slice M ms.length cm] 35)).alloc (by simp) (.cells #[.int .i64 0, .int .i64 0, .slice none 0 0, .int .i64 0, .int .i64 0, .int .i64 0, .int .i64 0, .int .i64 0, .bool false, .bool false, .bool false, .bool false, .int .i64 0, .int .i64 0, .int .i64 0, .slice none 0 0] 35)
  have bz := Blk.new (w.alloc (.cells #[.int .i64 W, .int .i64 H, .slice C cs.length cc, .int .i64 X, .int .i64 Y, .int .i64 At, .int .i64 Tp, .int .i64 Bt, .bool wr, .bool au, .bool hi, .bool al, .int .i64 s0, .int .i64 s1, .int .i64 s2, .slice M ms.length cm] 35)) 35 #[.int .i64 0, .int .i64 0, .slice none 0 0, .int .i64 0, .int .i64 0, .int .i64 0, .int .i64 0, .int .i64 0, .bool false, .bool false, .bool false, .bool false, .int .i64 0, .int .i64 0, .int .i64 0, .slice none 0 0] (g := w.heap.size + 1) (by simp)
  go_enter Try.func69, Try.ntmps69
  go_wp2_with fail
  refine (HC.out _ bb).mono ?_
  rintro e w1 ⟨rfl, b1⟩
  have bz1 := bz.later b1
  have z1 : w.heap.size + 2 ≤ w1.heap.size := by have := b1.size; simp at this; omega
  have bb1 := bb.trans (b1.mono (by simp; omega))
  clear b1 bz bb
  have ⟨kc, ke⟩ := bz1.rules
  go_wp2_with fail
  have B := bz1.all [.int .i64 0, .int .i64 0, .slice none 0 0, .int .i64 0, .int .i64 0, .int .i64 0, .int .i64 0, .int .i64 0, .bool false, .bool false, .bool false, .bool false, .int .i64 0, .int .i64 0, .int .i64 0, .slice none 0 0] rfl
  have bb4 := below_sets (g := w.heap.size + 1) bb1 (by omega) (by omega) [.int .i64 0, .int .i64 0, .slice none 0 0, .int .i64 0, .int .i64 0, .int .i64 0, .int .i64 0, .int .i64 0, .bool false, .bool false, .bool false, .bool false, .int .i64 0, .int .i64 0, .int .i64 0, .slice none 0 0]
  have ⟨kd, kf⟩ := B.rules
  clear kc ke
  generalize hW4 : w1.setCells (w.heap.size + 1) 0 [.int .i64 0, .int .i64 0, .slice none 0 0, .int .i64 0, .int .i64 0, .int .i64 0, .int .i64 0, .int .i64 0, .bool false, .bool false, .bool false, .bool false, .int .i64 0, .int .i64 0, .int .i64 0, .slice none 0 0] = W4 at *
  simp only [World.setCells, Nat.zero_add, Nat.reduceAdd] at hW4
  rw [hW4]
  exact bodyPost_ret (v := .agg (noScr.v none 0 none 0)) (by simp [results, Try.results69, go_sem, Scr.v, kd, noScr]) rfl ⟨none, 0, none, 0, rfl, noScr_at _ _ _, bb4⟩

set_option maxHeartbeats 8000000 in
set_option maxRecDepth 100000 in
theorem copy_in {lo up : Nat} {s : Scr} {C M : Option Addr} {cc cm : Nat} {w : World} (hat : ScrAt w lo up s C cc M cm) (hup : up ≤ w.heap.size) (hl : s.cs.length ≤ 1000000 ∧ s.ms.length ≤ 1000000) (h : gOk s = true) :
    Calls Try.prog 69 #[.agg (s.v C cc M cm), .func (.func 70) #[] #[]] w (RetS w s) := by
  have HC := Lib.hid (fun W (b : Below w.heap.size w W) => check_ok (hat.below b hup) (Nat.le_trans hup b.size) ⟨by omega, by omega⟩ h)
  obtain ⟨i0, hi0, hz0, hz1, hz2⟩ := info_parts info64
  obtain ⟨hc, hm⟩ := hat
  have HCL := Lib.hid (fun W (b : Below w.heap.size w W) => clonec_any (hc.below b hup) (Nat.le_trans hup b.size) hl.1)
  have HMS := Lib.hid hm
  obtain ⟨l1, l2⟩ := hl
  obtain ⟨W, H, X, Y, At, Tp, Bt, wr, au, hi, al, s0, s1, s2, cs, ms⟩ := s
  unfold Scr.v at HC ⊢
  simp only at HC HCL HMS l1 l2 ⊢
  clear h hc hm
  have bb := ((Below.refl w.heap.size w).alloc (Nat.le_refl _) (.cells #[.int .i64 W, .int .i64 H, .slice C cs.length cc, .int .i64 X, .int .i64 Y, .int .i64 At, .int .i64 Tp, .int .i64 Bt, .bool wr, .bool au, .bool hi, .bool al, .int .i64 s0, .int .i64 s1, .int .i64 s2, .slice M ms.length cm] 35)).alloc (by simp) (.cells #[.int .i64 0, .int .i64 0, .slice none 0 0, .int .i64 0, .int .i64 0, .int .i64 0, .int .i64 0, .int .i64 0, .bool false, .bool false, .bool false, .bool false, .int .i64 0, .int .i64 0, .int .i64 0, .slice none 0 0] 35)
  have bs := (Blk.new w 35 #[.int .i64 W, .int .i64 H, .slice C cs.length cc, .int .i64 X, .int .i64 Y, .int .i64 At, .int .i64 Tp, .int .i64 Bt, .bool wr, .bool au, .bool hi, .bool al, .int .i64 s0, .int .i64 s1, .int .i64 s2, .slice M ms.length cm] rfl).alloc (.cells #[.int .i64 0, .int .i64 0, .slice none 0 0, .int .i64 0, .int .i64 0, .int .i64 0, .int .i64 0, .int .i64 0, .bool false, .bool false, .bool false, .bool false, .int .i64 0, .int .i64 0, .int .i64 0, .slice none 0 0] 35)
  have bz := Blk.new (w.alloc (.cells #[.int .i64 W, .int .i64 H, .slice C cs.length cc, .int .i64 X, .int .i64 Y, .int .i64 At, .int .i64 Tp, .int .i64 Bt, .bool wr, .bool au, .bool hi, .bool al, .int .i64 s0, .int .i64 s1, .int .i64 s2, .slice M ms.length cm] 35)) 35 #[.int .i64 0, .int .i64 0, .slice none 0 0, .int .i64 0, .int .i64 0, .int .i64 0, .int .i64 0, .int .i64 0, .bool false, .bool false, .bool false, .bool false, .int .i64 0, .int .i64 0, .int .i64 0, .slice none 0 0] (g := w.heap.size + 1) (by simp)
  go_enter Try.func69, Try.ntmps69
  go_wp2_with fail
  refine (HC.out _ bb).mono ?_
  rintro e w1 ⟨rfl, b1⟩
  have bz1 := bz.later b1
  have bs1 := bs.later b1
  have z1 : w.heap.size + 2 ≤ w1.heap.size := by have := b1.size; simp at this; omega
  have bb1 := bb.trans (b1.mono (by simp; omega))
  clear b1 bz bb bs
  have ⟨kc, ke⟩ := bs1.rules
  go_wp2_with fail
  refine (HCL.out _ bb1).mono ?_
  rintro e w2 ⟨C2, cc2, rfl, hown, b2⟩
  have bz2 := bz1.later b2
  have bs2 := bs1.later b2
  have z2 := b2.size
  have bb2 := bb1.trans (b2.mono (by omega))
  have hC2 := (Sl.of_own hown).more (lo' := w.heap.size + 2) (by omega) (Nat.le_refl _)
  clear b2 bz1 bs1 kc ke hown bb1
  have bs3 := bs2.set_ 2 (.slice C2 cs.length cc2)
  have ⟨kc, ke⟩ := bs2.rules
  have bb3 := bb2.setCell (p := ⟨w.heap.size, 2, none⟩) (by simp) (.slice C2 cs.length cc2)
  have hC3 := hC2.setCell (p := ⟨w.heap.size, 2, none⟩) (.inl (by simp <;> omega)) (.slice C2 cs.length cc2)
  have hM3 := HMS.out.below bb3 hup
  have hup2 : up ≤ (w2.setCell ⟨w.heap.size, 2, none⟩ (.slice C2 cs.length cc2)).heap.size := by rw [World.size_setCell]; omega
  have bz3 := bz2.far (p := ⟨w.heap.size, 2, none⟩) (by simp) (.slice C2 cs.length cc2)
  go_wp2_with (at_builtin; refine wpList_append_sl _ rfl (.const (.slice none 0 0)) (.tmp 14) _ rfl (w.heap.size + 2) 64 i0 _ 2 16 Try.underlying32 hi0 hz0 hz1 hz2 rfl (by omega) (.slice none 0 0) 0 [] rfl (World.ownsRow_nil _ _ _ _) lo up _ ms.length cm _ rfl hM3 (cCells_one _) ms.length (by omega) _ rfl (by unfold maxLen; omega) (by omega) (by simp; omega) ?_; intro M2 cm2 w4 hown4 hg4; have bs4 := bs3.grown hg4 (by simp [Value.ownBlock]); have bz4 := bz3.grown hg4 (by simp [Value.ownBlock]); have ⟨kc4, ke4⟩ := bs4.rules)
  refine (nothing_any _ _).mono ?_
  rintro e w5 ⟨rfl, rfl⟩
  have bb4 := bb3.grown hg4 (by rw [World.size_setCell]; omega) (fun g e => by simp [Value.ownBlock] at e)
  have hC4 := hC3.grown hg4 (by rw [World.size_setCell]; exact Nat.le_refl _) (fun g e => by simp [Value.ownBlock] at e)
  have hM4 := Sl.of_own hown4
  have z4 : w2.heap.size ≤ w4.heap.size := by have := hg4.size; rwa [World.size_setCell] at this
  have bs5 : Blk (w4.setCell ⟨w.heap.size, 15, none⟩ (.slice M2 ms.length cm2)) w.heap.size 35 #[.int .i64 W, .int .i64 H, .slice C2 cs.length cc2, .int .i64 X, .int .i64 Y, .int .i64 At, .int .i64 Tp, .int .i64 Bt, .bool wr, .bool au, .bool hi, .bool al, .int .i64 s0, .int .i64 s1, .int .i64 s2, .slice M2 ms.length cm2] := bs4.set_ 15 (.slice M2 ms.length cm2)
  have bz5 := bz4.far (p := ⟨w.heap.size, 15, none⟩) (by simp) (.slice M2 ms.length cm2)
  have bb5 := bb4.setCell (p := ⟨w.heap.size, 15, none⟩) (by simp) (.slice M2 ms.length cm2)
  have hC5 := hC4.setCell (p := ⟨w.heap.size, 15, none⟩) (.inl (by simp <;> omega)) (.slice M2 ms.length cm2)
  have hM5 := hM4.setCell (p := ⟨w.heap.size, 15, none⟩) (.inl (by simp <;> omega)) (.slice M2 ms.length cm2)
  have z5 : w4.heap.size ≤ (w4.setCell ⟨w.heap.size, 15, none⟩ (.slice M2 ms.length cm2)).heap.size := by rw [World.size_setCell]; exact Nat.le_refl _
  clear kc ke kc4 ke4 bs4 bz4 bs3 bz3 bs2 bz2 bb4 hC4 hM4 hC3 hM3 hC2 hown4 hup2 bb3 hg4
  generalize w4.setCell ⟨w.heap.size, 15, none⟩ (.slice M2 ms.length cm2) = W5 at *
  have ⟨kc, ke⟩ := bs5.rules
  have ⟨kz, ze⟩ := bz5.rules
  go_wp2_with fail
  have B := bz5.all [.int .i64 W, .int .i64 H, .slice C2 cs.length cc2, .int .i64 X, .int .i64 Y, .int .i64 At, .int .i64 Tp, .int .i64 Bt, .bool wr, .bool au, .bool hi, .bool al, .int .i64 s0, .int .i64 s1, .int .i64 s2, .slice M2 ms.length cm2] rfl
  have bb6 := below_sets (g := w.heap.size + 1) bb5 (by omega) (by omega) [.int .i64 W, .int .i64 H, .slice C2 cs.length cc2, .int .i64 X, .int .i64 Y, .int .i64 At, .int .i64 Tp, .int .i64 Bt, .bool wr, .bool au, .bool hi, .bool al, .int .i64 s0, .int .i64 s1, .int .i64 s2, .slice M2 ms.length cm2]
  have G := grownBy_setCells (w.heap.size + 1) [.int .i64 W, .int .i64 H, .slice C2 cs.length cc2, .int .i64 X, .int .i64 Y, .int .i64 At, .int .i64 Tp, .int .i64 Bt, .bool wr, .bool au, .bool hi, .bool al, .int .i64 s0, .int .i64 s1, .int .i64 s2, .slice M2 ms.length cm2] 0 W5
  have hC6 := hC5.grown G (by omega) (fun g e => by cases e; omega)
  have hM6 := hM5.grown G (by omega) (fun g e => by cases e; omega)
  have z6 := G.size
  have ⟨kd, kf⟩ := B.rules
  clear kc ke kz ze
  generalize hW4 : W5.setCells (w.heap.size + 1) 0 [.int .i64 W, .int .i64 H, .slice C2 cs.length cc2, .int .i64 X, .int .i64 Y, .int .i64 At, .int .i64 Tp, .int .i64 Bt, .bool wr, .bool au, .bool hi, .bool al, .int .i64 s0, .int .i64 s1, .int .i64 s2, .slice M2 ms.length cm2] = W6 at *
  simp only [World.setCells, Nat.zero_add, Nat.reduceAdd] at hW4
  rw [hW4]
  exact bodyPost_ret (v := .agg ((⟨W, H, X, Y, At, Tp, Bt, wr, au, hi, al, s0, s1, s2, cs, ms⟩ : Scr).v C2 cc2 M2 cm2)) (by simp [results, Try.results69, go_sem, Scr.v, kd]) rfl ⟨C2, cc2, M2, cm2, rfl, ⟨hC6.more (by omega) (by omega), hM6.more (by omega) (by omega)⟩, bb6⟩

set_option maxHeartbeats 4000000 in
set_option maxRecDepth 100000 in
theorem copy_any {lo up : Nat} {s : Scr} {C M : Option Addr} {cc cm : Nat} {w : World} (hat : ScrAt w lo up s C cc M cm) (hup : up ≤ w.heap.size) (hl : s.cs.length ≤ 1000000 ∧ s.ms.length ≤ 1000000) :
    Calls Try.prog 29 #[.agg (s.v C cc M cm)] w (RetS w (gCopy s)) := by
  have key : ∀ (t : Scr), (∀ W, Below w.heap.size w W → Calls Try.prog 69 #[.agg (s.v C cc M cm), .func (.func 70) #[] #[]] W (RetS W t)) → Calls Try.prog 29 #[.agg (s.v C cc M cm)] w (RetS w t) := by
    intro t Ht
    have HT := Lib.hid Ht
    clear Ht hat hl
    obtain ⟨W, H, X, Y, At, Tp, Bt, wr, au, hi, al, s0, s1, s2, cs, ms⟩ := s
    unfold Scr.v at HT ⊢
    simp only at HT ⊢
    have bb := ((Below.refl w.heap.size w).alloc (Nat.le_refl _) (.cells #[.int .i64 W, .int .i64 H, .slice C cs.length cc, .int .i64 X, .int .i64 Y, .int .i64 At, .int .i64 Tp, .int .i64 Bt, .bool wr, .bool au, .bool hi, .bool al, .int .i64 s0, .int .i64 s1, .int .i64 s2, .slice M ms.length cm] 35)).alloc (by simp) (.cells #[.int .i64 0, .int .i64 0, .slice none 0 0, .int .i64 0, .int .i64 0, .int .i64 0, .int .i64 0, .int .i64 0, .bool false, .bool false, .bool false, .bool false, .int .i64 0, .int .i64 0, .int .i64 0, .slice none 0 0] 35)
    have bz := Blk.new (w.alloc (.cells #[.int .i64 W, .int .i64 H, .slice C cs.length cc, .int .i64 X, .int .i64 Y, .int .i64 At, .int .i64 Tp, .int .i64 Bt, .bool wr, .bool au, .bool hi, .bool al, .int .i64 s0, .int .i64 s1, .int .i64 s2, .slice M ms.length cm] 35)) 35 #[.int .i64 0, .int .i64 0, .slice none 0 0, .int .i64 0, .int .i64 0, .int .i64 0, .int .i64 0, .int .i64 0, .bool false, .bool false, .bool false, .bool false, .int .i64 0, .int .i64 0, .int .i64 0, .slice none 0 0] (g := w.heap.size + 1) (by simp)
    go_enter Try.func29, Try.ntmps29
    go_wp2_with fail
    refine (HT.out _ bb).mono ?_
    rintro e w1 ⟨C2, cc2, M2, cm2, rfl, hat2, b1⟩
    obtain ⟨W, H, X, Y, At, Tp, Bt, wr, au, hi, al, s0, s1, s2, cs, ms⟩ := t
    unfold Scr.v
    simp only
    have bz1 := bz.later b1
    have z1 : w.heap.size + 2 ≤ w1.heap.size := by have := b1.size; simp at this; omega
    have bb1 := bb.trans (b1.mono (by simp; omega))
    have hat3 : ScrAt w1 (w.heap.size + 2) w1.heap.size ⟨W, H, X, Y, At, Tp, Bt, wr, au, hi, al, s0, s1, s2, cs, ms⟩ C2 cc2 M2 cm2 := hat2.more (by simp) (Nat.le_refl _)
    clear b1 bz bb hat2 HT
    have ⟨kz, ze⟩ := bz1.rules
    go_wp2_with fail
    have B := bz1.all [.int .i64 W, .int .i64 H, .slice C2 cs.length cc2, .int .i64 X, .int .i64 Y, .int .i64 At, .int .i64 Tp, .int .i64 Bt, .bool wr, .bool au, .bool hi, .bool al, .int .i64 s0, .int .i64 s1, .int .i64 s2, .slice M2 ms.length cm2] rfl
    have bb6 := below_sets (g := w.heap.size + 1) bb1 (by omega) (by omega) [.int .i64 W, .int .i64 H, .slice C2 cs.length cc2, .int .i64 X, .int .i64 Y, .int .i64 At, .int .i64 Tp, .int .i64 Bt, .bool wr, .bool au, .bool hi, .bool al, .int .i64 s0, .int .i64 s1, .int .i64 s2, .slice M2 ms.length cm2]
    have G := grownBy_setCells (w.heap.size + 1) [.int .i64 W, .int .i64 H, .slice C2 cs.length cc2, .int .i64 X, .int .i64 Y, .int .i64 At, .int .i64 Tp, .int .i64 Bt, .bool wr, .bool au, .bool hi, .bool al, .int .i64 s0, .int .i64 s1, .int .i64 s2, .slice M2 ms.length cm2] 0 w1
    have hat4 := hat3.grown G (by omega) (fun g e => by cases e; omega)
    have z6 := G.size
    have ⟨kd, kf⟩ := B.rules
    clear kz ze
    generalize hW4 : w1.setCells (w.heap.size + 1) 0 [.int .i64 W, .int .i64 H, .slice C2 cs.length cc2, .int .i64 X, .int .i64 Y, .int .i64 At, .int .i64 Tp, .int .i64 Bt, .bool wr, .bool au, .bool hi, .bool al, .int .i64 s0, .int .i64 s1, .int .i64 s2, .slice M2 ms.length cm2] = W6 at *
    simp only [World.setCells, Nat.zero_add, Nat.reduceAdd] at hW4
    rw [hW4]
    exact bodyPost_ret (v := .agg ((⟨W, H, X, Y, At, Tp, Bt, wr, au, hi, al, s0, s1, s2, cs, ms⟩ : Scr).v C2 cc2 M2 cm2)) (by simp [results, Try.results29, go_sem, Scr.v, kd]) rfl ⟨C2, cc2, M2, cm2, rfl, hat4.more (by omega) (by omega), bb6⟩
  unfold gCopy
  cases h : gOk s
  · simp only [Bool.false_eq_true, if_false]
    exact key _ fun W b => done_no (hat.below b hup) (Nat.le_trans hup b.size) ⟨by omega, by omega⟩ h _
  · simp only [if_true]
    exact key _ fun W b => copy_in (hat.below b hup) (Nat.le_trans hup b.size) hl h
end Go.Proofs.Ytfeeincglijmjaa
