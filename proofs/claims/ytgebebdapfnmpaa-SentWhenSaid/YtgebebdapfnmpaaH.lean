/- The walks of sent.Lost and sent.Acked. -/
import Derived.Test.YtgebebdapfnmpaaG
import Derived.Test.YtgebebdapfnmpaaRE
namespace Go.Proofs.Ytgebebdapfnmpaa
open Go.RowKit
set_option linter.unusedVariables false
set_option linter.unusedSimpArgs false

/-- Whether a packet is lost. -/
def lostIs (x y t : Int) (p : Pk) : Bool := decide (p.no < x ∧ (3 ≤ x - p.no ∨ p.ti + t ≤ y))

set_option maxHeartbeats 4000000 in
theorem lost_fn {p : Pk} {x y t : Int} {g1 g2 g3 : Nat} {w : World} (b1 : Blk w g1 3 #[.int .i64 x]) (b2 : Blk w g2 3 #[.int .i64 t]) (b3 : Blk w g3 3 #[.int .i64 y])
    (hx : -9223372036854775808 ≤ x ∧ x ≤ 9223372036854775807) (hy : 0 ≤ y ∧ y ≤ 1099511627776) (ht : 0 ≤ t ∧ t ≤ 1099511627776) (hp : 0 ≤ p.no ∧ (0 ≤ p.ti ∧ p.ti ≤ 1099511627776) ∧ 0 ≤ p.sz ∧ p.sz ≤ 65535) :
    Calls Try.prog 17 #[p.val, .pointer (some ⟨g1, 0, none⟩), .pointer (some ⟨g2, 0, none⟩), .pointer (some ⟨g3, 0, none⟩)] w fun e w' => e = .returned (.bool (lostIs x y t p)) ∧ Below w.heap.size w w' := by
  obtain ⟨no, ti, sz, el, pr⟩ := p
  have ⟨k1, f1⟩ := b1.rules
  have ⟨k2, f2⟩ := b2.rules
  have ⟨k3, f3⟩ := b3.rules
  have z1 := b1.lt
  have z2 := b2.lt
  have z3 := b3.lt
  clear b1 b2 b3
  simp only [Pk.val] at *
  by_cases h1 : no < x
  · by_cases h2 : 3 ≤ x - no
    · rw [show lostIs x y t ⟨no, ti, sz, el, pr⟩ = true from by simp [lostIs, h1, h2]]
      go_enter Try.func17, Try.ntmps17
      go_wp2
      go_ret
      exact ⟨rfl, (Below.refl _ _).alloc (Nat.le_refl _) _⟩
    · by_cases h3 : ti + t ≤ y
      · rw [show lostIs x y t ⟨no, ti, sz, el, pr⟩ = true from by simp [lostIs, h1, h3]]
        go_enter Try.func17, Try.ntmps17
        go_wp2
        go_ret
        exact ⟨rfl, (Below.refl _ _).alloc (Nat.le_refl _) _⟩
      · rw [show lostIs x y t ⟨no, ti, sz, el, pr⟩ = false from by simp only [lostIs, decide_eq_false_iff_not]; intro hh; rcases hh.2 with h | h; exact h2 h; exact h3 h]
        go_enter Try.func17, Try.ntmps17
        go_wp2
        go_ret
        exact ⟨rfl, (Below.refl _ _).alloc (Nat.le_refl _) _⟩
  · rw [show lostIs x y t ⟨no, ti, sz, el, pr⟩ = false from by simp [lostIs, h1]]
    go_enter Try.func17, Try.ntmps17
    go_wp2
    go_ret
    exact ⟨rfl, (Below.refl _ _).alloc (Nat.le_refl _) _⟩

theorem m_good {L M : List Pk} (hM : pOk L ∧ M = L ∨ ¬ pOk L ∧ M = []) : ∀ p ∈ M, 0 ≤ p.no ∧ (0 ≤ p.ti ∧ p.ti ≤ 1099511627776) ∧ 0 ≤ p.sz ∧ p.sz ≤ 65535 := by
  rcases hM with ⟨h, rfl⟩ | ⟨_, rfl⟩
  · exact good_bnd h.1
  · intro p hp; cases hp

theorem own_base {w : World} {b b' : Nat} {e : TypeId} {s : Nat} {v : Value} {n : Nat} {xs : List Value} (h : w.ownsRow b e s v n xs) (hb : b' ≤ b) : w.ownsRow b' e s v n xs := by
  refine ⟨h.1, ?_⟩
  rcases h.2 with h | ⟨g, cap, cur, h1, h2, h3, h4⟩
  · exact .inl h
  · exact .inr ⟨g, cap, cur, h1, by omega, h3, h4⟩

set_option maxHeartbeats 4000000 in
theorem lost_any {lo up c : Nat} {A : Option Addr} {k : Nat} {L M : List Pk} {w : World} (hs : Sl w lo up 5 A k c (pCells L)) (hup : up ≤ w.heap.size) (hk : k ≤ 9223372036854775807) (hL : pWf L) (hM : pOk L ∧ M = L ∨ ¬ pOk L ∧ M = [])
    (x n m : Int) (hx : -9223372036854775808 ≤ x ∧ x ≤ 9223372036854775807) :
    Calls Try.prog 9 #[.slice A k c, .int .i64 x, .int .i64 n, .int .i64 m] w (RetTwo w (M.filter (lostIs x (tm n) (tm m))) (M.filter fun p => !lostIs x (tm n) (tm m) p)) := by
  have HS := Lib.hid hs
  have HT := Lib.hid time_same
  have hy := tm_bound n
  have ht := tm_bound m
  have HP := Lib.hid (fun (W : World) (h : Sl W lo up 5 A k c (pCells L)) (hu : up ≤ W.heap.size) (b1 : Blk W w.heap.size 3 #[.int .i64 x]) (b2 : Blk W (w.heap.size + 1) 3 #[.int .i64 (tm n)]) (b3 : Blk W (w.heap.size + 1 + 1) 3 #[.int .i64 (tm m)]) =>
    parted_lost (g1 := w.heap.size) (g2 := w.heap.size + 1 + 1) (g3 := w.heap.size + 1) h hu hk hL hM (lostIs x (tm n) (tm m)) (fun p hp W' hW' => lost_fn (b1.later hW') (b3.later hW') (b2.later hW') hx hy ht (m_good hM p hp)))
  clear hs hL hM
  obtain ⟨y, hy'⟩ : ∃ y, y = tm n := ⟨_, rfl⟩
  obtain ⟨t, ht'⟩ : ∃ t, t = tm m := ⟨_, rfl⟩
  rw [← hy'] at hy HP ⊢
  rw [← ht'] at ht HP ⊢
  have HT1 := Lib.hid (fun w => by have := HT.out n w; rw [← hy'] at this; exact this)
  have HT2 := Lib.hid (fun w => by have := HT.out m w; rw [← ht'] at this; exact this)
  clear hy' ht' HT
  go_enter Try.func9, Try.ntmps9
  go_wp2_with fail
  have hB : Below w.heap.size w ((((w.alloc (.cells #[.int .i64 x] 3)).alloc (.cells #[.int .i64 y] 3)).alloc (.cells #[.int .i64 t] 3)).drew) := ((((Below.refl _ w).alloc (Nat.le_refl _) _).alloc (by simp) _).alloc (by simp; omega) _).drew
  have HB := Lib.hid hB
  have HQ := Lib.hid (HP.out ((((w.alloc (.cells #[.int .i64 x] 3)).alloc (.cells #[.int .i64 y] 3)).alloc (.cells #[.int .i64 t] 3)).drew) (HS.out.below hB hup) (by have := hB.size; omega) (((Blk.new w 3 #[.int .i64 x] rfl).alloc _).alloc _).drew ((Blk.new _ 3 #[.int .i64 y] (by simp)).alloc _).drew (Blk.new _ 3 #[.int .i64 t] (by simp)).drew)
  have hz : w.heap.size ≤ ((((w.alloc (.cells #[.int .i64 x] 3)).alloc (.cells #[.int .i64 y] 3)).alloc (.cells #[.int .i64 t] 3)).drew).heap.size := hB.size
  have HZ := Lib.hid hz
  obtain ⟨L1, e1⟩ : ∃ L1, L1 = M.filter (lostIs x y t) := ⟨_, rfl⟩
  obtain ⟨L2, e2⟩ : ∃ L2, L2 = M.filter (fun p => !lostIs x y t p) := ⟨_, rfl⟩
  rw [← e1, ← e2] at HQ
  have E1 := Lib.hid e1
  have E2 := Lib.hid e2
  clear e1 e2 hB hz
  go_region_with (first
    | (go_at_call 14; refine (HT1.out _).mono ?_; rintro e w' ⟨rfl, rfl⟩)
    | (go_at_call 14; refine (HT2.out _).mono ?_; rintro e w' ⟨rfl, rfl⟩))
  all_goals
    go_wp2_with fail
    refine HQ.out.mono ?_
    rintro e w2 ⟨A1, c1, A2, c2, rfl, o1, o2, hb2⟩
    go_wp2
    go_ret2
    show RetTwo w _ _ _ _
    rw [← E1.out, ← E2.out]
    exact ⟨A1, c1, A2, c2, rfl, own_base o1 HZ.out, own_base o2 HZ.out, HB.out.trans (hb2.mono HZ.out)⟩

theorem came_fn {p : Pk} {lo up c g : Nat} {A : Option Addr} {n : Nat} {l : List (Int × Int)} {w : World} (b1 : Blk w g 34 #[.slice A n c]) (hr : Sl w lo up 2 A n c (rCells l)) (hup : up ≤ w.heap.size) (hn : n ≤ 1000) (hl : rWf l) :
    Calls Try.prog 18 #[p.val, .pointer (some ⟨g, 0, none⟩)] w fun e w' => e = .returned (.bool (rHas (rOf l) p.no)) ∧ Below w.heap.size w w' := by
  obtain ⟨no, ti, sz, el, pr⟩ := p
  have ⟨k1, f1⟩ := b1.rules
  have z1 := b1.lt
  have H := Lib.hid (fun W (h : Sl W lo up 2 A n c (rCells l)) hu => has_any (x := no) h hu hn hl (w := W))
  have HR := Lib.hid hr
  clear hr hl b1
  simp only [Pk.val] at *
  go_enter Try.func18, Try.ntmps18
  go_wp2_with fail
  refine (H.out _ (HR.out.alloc hup _) (by simp; omega)).mono ?_
  rintro e w1 ⟨rfl, hb⟩
  go_wp2
  go_ret
  exact ⟨rfl, ((Below.refl _ w).alloc (Nat.le_refl _) _).trans (hb.mono (by simp))⟩

theorem acked_any {lo up c : Nat} {A : Option Addr} {k : Nat} {L M : List Pk} {lo2 up2 c2 : Nat} {A2 : Option Addr} {n : Nat} {l : List (Int × Int)} {w : World} (hs : Sl w lo up 5 A k c (pCells L)) (hup : up ≤ w.heap.size) (hk : k ≤ 9223372036854775807) (hL : pWf L) (hM : pOk L ∧ M = L ∨ ¬ pOk L ∧ M = [])
    (hr : Sl w lo2 up2 2 A2 n c2 (rCells l)) (hup2 : up2 ≤ w.heap.size) (hn : n ≤ 1000) (hl : rWf l) :
    Calls Try.prog 11 #[.slice A k c, .slice A2 n c2] w (RetTwo w (M.filter fun p => rHas (rOf l) p.no) (M.filter fun p => !rHas (rOf l) p.no)) := by
  have HS := Lib.hid hs
  have HR := Lib.hid hr
  have hB : Below w.heap.size w (w.alloc (.cells #[.slice A2 n c2] 34)) := (Below.refl _ w).alloc (Nat.le_refl _) _
  have hz := hB.size
  have b0 : Blk (w.alloc (.cells #[.slice A2 n c2] 34)) w.heap.size 34 #[.slice A2 n c2] := Blk.new w 34 _ rfl
  have HP := Lib.hid (parted_came (g1 := w.heap.size) (hs.below hB hup) (by omega) hk hL hM (fun p => rHas (rOf l) p.no) (fun p hp W' hW' => came_fn (b0.later hW') ((hr.below hB hup2).below hW' (by omega)) (by have := hW'.size; omega) hn hl))
  have HB := Lib.hid hB
  have HZ := Lib.hid hz
  clear hs hr hL hM b0 hB hz hl
  obtain ⟨L1, e1⟩ : ∃ L1, L1 = M.filter (fun p => rHas (rOf l) p.no) := ⟨_, rfl⟩
  obtain ⟨L2, e2⟩ : ∃ L2, L2 = M.filter (fun p => !rHas (rOf l) p.no) := ⟨_, rfl⟩
  rw [← e1, ← e2] at HP
  have E1 := Lib.hid e1
  have E2 := Lib.hid e2
  clear e1 e2
  go_enter Try.func11, Try.ntmps11
  go_wp2_with fail
  refine HP.out.mono ?_
  rintro e w2 ⟨A1, c1, A3, c3, rfl, o1, o2, hb2⟩
  go_wp2
  go_ret2
  show RetTwo w _ _ _ _
  rw [← E1.out, ← E2.out]
  exact ⟨A1, c1, A3, c3, rfl, own_base o1 HZ.out, own_base o2 HZ.out, HB.out.trans (hb2.mono HZ.out)⟩
end Go.Proofs.Ytgebebdapfnmpaa
