/- The walk of StateTells. -/
import Derived.Test.YtfeeincglijmjaaTG
import Derived.Test.YtfeeincglijmjaaUC
import Derived.Test.YtfeeincglijmjaaUE
import Derived.Test.YtfeeincglijmjaaUF
import Derived.Test.YtfeeincglijmjaaLift5
namespace Go.Proofs.Ytfeeincglijmjaa
open Go.RowKit
set_option linter.unusedVariables false
set_option linter.unusedSimpArgs false
attribute [local go_sem ↓] Go.wp_at_zero Go.wp_at_succ

theorem dPush_len (l : List (Int × Scr)) (s : Scr) : (dPush l s).length ≤ 1000 := by
  unfold dPush
  split
  · rename_i h
    have h8 := (sCheck_parts h).2.1
    split
    · split
      · omega
      · unfold dShort
        split
        · omega
        · rw [List.length_eraseIdx]
          split
          · simp only [List.length_append, List.length_cons, List.length_nil]; omega
          · simp only [List.length_append, List.length_cons, List.length_nil]; omega
    · simp
  · simp
theorem dAcked_len (l : List (Int × Scr)) (z : Int) : (dAcked l z).length ≤ 1000 := by
  unfold dAcked
  split
  · rename_i h
    have h8 := (sCheck_parts h).2.1
    rw [List.length_drop]
    omega
  · simp
theorem len_own {w : World} {base : Nat} {e : TypeId} {s : Nat} {v : Value} {n : Nat} {xs : List Value} (h : w.ownsRow base e s v n xs) : n ≤ 9223372036854775807 := by
  rcases h.2 with ⟨_, h0⟩ | ⟨g, cap, cur, _, _, _, h1, h2, _⟩
  · omega
  · unfold maxLen at h2; omega
/-- Two answers that are the same list, the one behind the other: the document's Same finds them alike. -/
theorem same_ret {w w5 w6 : World} {P : List (Int × Scr)} {e5 e6 : Ending} (hP : P.length ≤ 1000) (h5 : RetSh w P e5 w5) (h6 : RetSh w5 P e6 w6) :
    ∃ (A5 : Option Addr) (n5 c5 : Nat) (A6 : Option Addr) (n6 c6 : Nat), e5 = .returned (.slice A5 n5 c5) ∧ e6 = .returned (.slice A6 n6 c6) ∧ Below w.heap.size w w5 ∧ Below w.heap.size w w6 ∧
      Hid (Calls Try.prog 35 #[.slice A5 n5 c5, .slice A6 n6 c6] w6 fun e w' => e = .returned (.bool true) ∧ Below w6.heap.size w6 w') := by
  obtain ⟨A5, c5, K5, rfl, hp5, o5, ok5, b5⟩ := h5
  obtain ⟨A6, c6, K6, rfl, hp6, o6, ok6, b6⟩ := h6
  have S5 := shs_of o5 ok5 rfl
  have S6 := shs_of o6 ok6 rfl
  have hl : K5.length ≤ 1000 := by have := congrArg List.length hp5; rw [List.length_map] at this; omega
  exact ⟨A5, K5.length, c5, A6, K6.length, c6, rfl, rfl, b5, b5.trans (b6.mono b5.size), Lib.hid (rsame_yes ((S5.below b6 (Nat.le_refl _)).more b6.size) (Nat.le_refl _) S6 (Nat.le_refl _) hl (hp5.trans hp6.symm))⟩

set_option maxHeartbeats 16000000 in
set_option maxRecDepth 100000 in
theorem stells_any {up lo2 up2 : Nat} {A : Option Addr} {n c : Nat} {l : List Shn} {s : Scr} {C M : Option Addr} {cc cm : Nat} {x2 x3 : Int} {w : World} (hr : Shs w up A n c l) (hup : up ≤ w.heap.size) (hn : n ≤ 9223372036854775807) (hat : ScrAt w lo2 up2 s C cc M cm) (hup2 : up2 ≤ w.heap.size) (hl : s.Len)
    (hx2 : -9223372036854775808 ≤ x2 ∧ x2 ≤ 9223372036854775807) (hx3 : -9223372036854775808 ≤ x3 ∧ x3 ≤ 9223372036854775807) :
    Calls Try.prog 10 #[.slice A n c, .agg (s.v C cc M cm), .int .i64 x2, .int .i64 x3] w fun e w' => e = .returned (.bool true) ∧ Below w.heap.size w w' := by
  have bb := (Below.refl w.heap.size w).alloc (Nat.le_refl _) (.cells (s.v C cc M cm) 35)
  have kA := Blk.new w 35 (s.v C cc M cm) rfl
  have hz : w.heap.size + 1 ≤ (w.alloc (.cells (s.v C cc M cm) 35)).heap.size := by simp
  have HR := Lib.hid (fun W (b : Below w.heap.size w W) => hr.below b hup)
  have hlen := hr.len
  subst hlen
  have HF := Lib.hid (fun W (b : Below w.heap.size w W) => few20_any (hr.below b hup) (Nat.le_trans hup b.size) hn)
  have HA := Lib.hid (fun W => awake12_any W)
  have HM := Lib.hid (fun W (b : Below w.heap.size w W) => make_any (z := x3) (hr.below b hup) (Nat.le_trans hup b.size) hn)
  have HRM := Lib.hid (fun W (b : Below w.heap.size w W) => rmake_any (z := x3) (hr.below b hup) (Nat.le_trans hup b.size) hn)
  have HC1 := Lib.hid (fun W (b : Below w.heap.size w W) => scheck_any (hr.below b hup) (Nat.le_trans hup b.size) hn)
  have HC2 := Lib.hid (fun W (b : Below w.heap.size w W) => rscheck_any (hr.below b hup) (Nat.le_trans hup b.size) hn)
  have HP1 := Lib.hid (fun W (b : Below w.heap.size w W) => push_any (hr.below b hup) (Nat.le_trans hup b.size) hn (hat.below b hup2) (Nat.le_trans hup2 b.size) hl)
  have HP2 := Lib.hid (fun W (b : Below w.heap.size w W) => rpush_any (hr.below b hup) (Nat.le_trans hup b.size) hn (hat.below b hup2) (Nat.le_trans hup2 b.size) hl)
  have HK1 := Lib.hid (fun W (b : Below w.heap.size w W) => acked_any (z := x2) (hr.below b hup) (Nat.le_trans hup b.size) hn)
  have HK2 := Lib.hid (fun W (b : Below w.heap.size w W) => racked_any (z := x2) (hr.below b hup) (Nat.le_trans hup b.size) hn)
  have HPl := Lib.hid (dPush_len (l.map Shn.p) s)
  have HKl := Lib.hid (dAcked_len (l.map Shn.p) x2)
  generalize dPush (l.map Shn.p) s = PP at *
  generalize dAcked (l.map Shn.p) x2 = PK at *
  generalize dMake (l.map Shn.p) x3 = PM at *
  obtain ⟨qa, qb, qs, qo⟩ := PM
  generalize sCheck (l.map Shn.p) = ck at *
  have hs16 := Scr.v_size' s C cc M cm
  have ab2 := addr_add w.heap.size 0 2
  have ab15 := addr_add w.heap.size 0 15
  clear hr hat
  go_enter Try.func10, Try.ntmps10
  go_upto_region 1 with fail
  generalize hw0 : w.alloc (.cells (s.v C cc M cm) 35) = w0 at *
  clear hw0
  go_wp2_with fail
  refine (HA.out _).mono ?_
  rintro e w1 ⟨rfl, b1⟩
  have k1 := kA.below b1 kA.lt
  have bb1 := bb.trans (b1.mono bb.size)
  have z1 := bb1.size
  have hbox : w.heap.size < w1.heap.size := k1.lt
  have kc2 : w1.cell? ⟨w.heap.size, 2, none⟩ = some (.slice C s.cs.length cc) := k1.rules.1 2
  have kc15 : w1.cell? ⟨w.heap.size, 15, none⟩ = some (.slice M s.ms.length cm) := k1.rules.1 15
  have HS := Lib.hid (fun W (q : Below w1.heap.size w1 W) => (show Hid (W.rangeAt w.heap.size 0 (s.v C cc M cm).toList) from Lib.hid (blk_range (k1.below q k1.lt))))
  have HFw := Lib.hid (HF.out _ bb1)
  clear b1 bb kA HF HA k1
  cases hf : sFew (l.map Shn.p)
  · rw [hf] at HFw
    clear hf HM HRM HC1 HC2 HP1 HP2 HK1 HK2 HPl HKl HS
    go_wp2_with fail
    refine HFw.out.mono ?_
    rintro e w2 ⟨rfl, rfl⟩
    go_wp2_with fail
    go_ret
    exact ⟨rfl, bb1⟩
  rw [hf] at HFw
  clear hf
  by_cases h1 : 200 < s.cs.length
  · have h1I : (200 : Int) < s.cs.length := by omega
    clear HM HRM HC1 HC2 HP1 HP2 HK1 HK2 HPl HKl HS
    go_wp2_with fail
    refine HFw.out.mono ?_
    rintro e w2 ⟨rfl, rfl⟩
    go_wp2_with fail
    go_ret
    exact ⟨rfl, bb1⟩
  have h1I : ¬ ((200 : Int) < s.cs.length) := by omega
  by_cases h2 : 200 < s.ms.length
  · have h2I : (200 : Int) < s.ms.length := by omega
    clear HM HRM HC1 HC2 HP1 HP2 HK1 HK2 HPl HKl HS
    go_wp2_with fail
    refine HFw.out.mono ?_
    rintro e w2 ⟨rfl, rfl⟩
    go_wp2_with fail
    go_ret
    exact ⟨rfl, bb1⟩
  have h2I : ¬ ((200 : Int) < s.ms.length) := by omega
  go_wp2_with fail
  refine HFw.out.mono ?_
  rintro e w2 ⟨rfl, rfl⟩
  go_wp2_with fail
  refine (HM.out _ bb1).mono ?_
  rintro e w3 ⟨A3, c3, vs3, rfl, o3, bs3, b3⟩
  simp only at o3 bs3
  have bb3 := bb1.trans (b3.mono z1)
  clear HFw HM h1 h2 h1I h2I kc2 kc15 ab2 ab15
  go_wp2_with fail
  refine (HRM.out _ bb3).mono ?_
  rintro e w4 ⟨A4, c4, vs4, rfl, o4, bs4, b4⟩
  simp only at o4 bs4
  have b24 := b3.trans (b4.mono b3.size)
  have bb4 := bb1.trans (b24.mono z1)
  have z24 := b24.size
  have o34 := own_below o3 b4 (Nat.le_refl _)
  have bs34 := bs3.below b4 (Nat.le_refl _)
  clear o3 bs3 b3 b4 bb3 HRM
  generalize hca : s.v C cc M cm = ca at *
  clear hca
  have b00 : Below w4.heap.size w4 w4.drew := (Below.refl _ _).drew
  go_upto_region 6 with fail
  refine wp_region_noPanic ?_
  refine wp_region_held_drew (S := (fun w' : World => Hid (w'.rangeAt w.heap.size 0 ca.toList))) (by kernel_rfl) (by (try dsimp only); exact HS.out _ (b24.trans (b00.mono z24))) (fun hHeld => ?_)
  refine wpAnyH_take (i := 0) (oi := { dst := some 52, op := Op.move (Operand.tmp 0), type := 25, pos := "law.go:52", after := #[], guard := none }) (v := ?_) rfl (by kernel_rfl) (by kernel_rfl) (by kernel_rfl) (fun _ _ _ h => h) (Or.inl ⟨by rfl, ?_⟩) (by assumption) ?_
  rotate_left
  · (intro w hSw; (try dsimp only at hSw); go_simp); (try with_reducible rfl)
  try simp only [Act.put, List.setIfInBounds_toArray, List.set_cons_zero, List.set_cons_succ]
  refine wpAnyH_take (i := 2) (oi := { dst := some 54, op := Op.move (Operand.tmp 0), type := 25, pos := "law.go:52", after := #[], guard := none }) (v := ?_) rfl (by kernel_rfl) (by kernel_rfl) (by kernel_rfl) (fun _ _ _ h => h) (Or.inl ⟨by rfl, ?_⟩) (by assumption) ?_
  rotate_left
  · (intro w hSw; (try dsimp only at hSw); go_simp); (try with_reducible rfl)
  try simp only [Act.put, List.setIfInBounds_toArray, List.set_cons_zero, List.set_cons_succ]
  refine wpAnyH_ready (rs := [1]) (by kernel_rfl) (by simp) ?_
  refine AllReadyH.cons (o := { dst := some 53, op := Op.call { callee := Callee.value (Operand.func 33), args := #[Operand.tmp 52], argTypes := #[25] }, type := 4, pos := "law.go:52", after := #[{ on := 0, ground := Ground.data }], guard := none }) rfl (fun K hK => ?_) AllReadyH.nil
  go_simp
  refine (HC1.out _ (bb4.trans (b00.mono bb4.size))).mono ?_; rintro e wa ⟨rfl, hba⟩; have b4a : Below w4.heap.size w4 wa := b00.trans (hba.mono b00.size)
  refine hK.out _ _ (by (try dsimp only); exact HS.out _ (b24.trans (b4a.mono z24))) (fun hHeld => ?_)
  clear hK K
  try simp only [Act.put, List.setIfInBounds_toArray, List.set_cons_zero, List.set_cons_succ]
  refine wpAnyH_ready (rs := [3]) (by kernel_rfl) (by simp) ?_
  refine AllReadyH.cons (o := { dst := some 55, op := Op.call { callee := Callee.value (Operand.func 34), args := #[Operand.tmp 54], argTypes := #[25] }, type := 4, pos := "law.go:52", after := #[{ on := 2, ground := Ground.data }, { on := 1, ground := Ground.chain }], guard := none }) rfl (fun K hK => ?_) AllReadyH.nil
  go_simp
  refine (HC2.out _ (bb4.trans (b4a.mono bb4.size))).mono ?_; rintro e wb ⟨rfl, hbb⟩; have b4b : Below w4.heap.size w4 wb := b4a.trans (hbb.mono b4a.size)
  refine hK.out _ _ (by (try dsimp only); exact HS.out _ (b24.trans (b4b.mono z24))) (fun hHeld => ?_)
  clear hK K
  try simp only [Act.put, List.setIfInBounds_toArray, List.set_cons_zero, List.set_cons_succ]
  refine wpAnyH_take (i := 4) (oi := { dst := some 56, op := Op.binOp BinOp.eql 4 (Operand.tmp 53) (Operand.tmp 55) 4, type := 4, pos := "law.go:52", after := #[{ on := 1, ground := Ground.data }, { on := 3, ground := Ground.data }], guard := none }) (v := .bool true) rfl (by kernel_rfl) (by kernel_rfl) (by kernel_rfl) (fun _ _ _ h => h) (Or.inl ⟨by rfl, fun w hSw => (by clear hSw hHeld; cases ck <;> kernel_rfl)⟩) (by assumption) ?_
  try simp only [Act.put, List.setIfInBounds_toArray, List.set_cons_zero, List.set_cons_succ]
  refine wpAnyH_take (i := 5) (oi := { dst := some 57, op := Op.move (Operand.tmp 56), type := 4, pos := "law.go:52", after := #[{ on := 4, ground := Ground.data }, { on := 3, ground := Ground.chain }], guard := none }) (v := ?_) rfl (by kernel_rfl) (by kernel_rfl) (by kernel_rfl) (fun _ _ _ h => h) (Or.inl ⟨by rfl, ?_⟩) (by assumption) ?_
  rotate_left
  · (intro w hSw; (try dsimp only at hSw); go_simp); (try with_reducible rfl)
  try simp only [Act.put, List.setIfInBounds_toArray, List.set_cons_zero, List.set_cons_succ]
  refine wpAnyH_take (i := 6) (oi := { dst := some 58, op := Op.move (Operand.tmp 0), type := 25, pos := "law.go:52", after := #[{ on := 5, ground := Ground.guard }], guard := some (5, true) }) (v := ?_) rfl (by kernel_rfl) (by kernel_rfl) (by kernel_rfl) (fun _ _ _ h => h) (Or.inl ⟨by rfl, ?_⟩) (by assumption) ?_
  rotate_left
  · (intro w hSw; (try dsimp only at hSw); go_simp); (try with_reducible rfl)
  try simp only [Act.put, List.setIfInBounds_toArray, List.set_cons_zero, List.set_cons_succ]
  refine wpAnyH_take (i := 7) (oi := { dst := some 59, op := Op.load 35 (Operand.tmp 5), type := 35, pos := "law.go:52", after := #[{ on := 5, ground := Ground.guard }], guard := some (5, true) }) (v := .agg ca) rfl (by kernel_rfl) (by kernel_rfl) (by kernel_rfl) (fun _ _ _ h => h) (Or.inl ⟨by rfl, fun w hSw => exec_lds hSw hs16 rfl⟩) (by assumption) ?_
  try simp only [Act.put, List.setIfInBounds_toArray, List.set_cons_zero, List.set_cons_succ]
  refine wpAnyH_take (i := 9) (oi := { dst := some 61, op := Op.move (Operand.tmp 0), type := 25, pos := "law.go:52", after := #[{ on := 5, ground := Ground.guard }], guard := some (5, true) }) (v := ?_) rfl (by kernel_rfl) (by kernel_rfl) (by kernel_rfl) (fun _ _ _ h => h) (Or.inl ⟨by rfl, ?_⟩) (by assumption) ?_
  rotate_left
  · (intro w hSw; (try dsimp only at hSw); go_simp); (try with_reducible rfl)
  try simp only [Act.put, List.setIfInBounds_toArray, List.set_cons_zero, List.set_cons_succ]
  refine wpAnyH_take (i := 10) (oi := { dst := some 62, op := Op.load 35 (Operand.tmp 5), type := 35, pos := "law.go:52", after := #[{ on := 5, ground := Ground.guard }], guard := some (5, true) }) (v := .agg ca) rfl (by kernel_rfl) (by kernel_rfl) (by kernel_rfl) (fun _ _ _ h => h) (Or.inl ⟨by rfl, fun w hSw => exec_lds hSw hs16 rfl⟩) (by assumption) ?_
  try simp only [Act.put, List.setIfInBounds_toArray, List.set_cons_zero, List.set_cons_succ]
  refine wpAnyH_ready (rs := [8]) (by kernel_rfl) (by simp) ?_
  refine AllReadyH.cons (o := { dst := some 60, op := Op.call { callee := Callee.value (Operand.func 15), args := #[Operand.tmp 58, Operand.tmp 59], argTypes := #[25, 35] }, type := 25, pos := "law.go:52", after := #[{ on := 6, ground := Ground.data }, { on := 7, ground := Ground.data }, { on := 5, ground := Ground.chain }, { on := 5, ground := Ground.guard }], guard := some (5, true) }) rfl (fun K hK => ?_) AllReadyH.nil
  go_simp
  refine (HP1.out _ (bb4.trans (b4b.mono bb4.size))).mono ?_; rintro e wc hwc; obtain ⟨A5, n5, c5, rfl, b4c, hq5⟩ : ∃ (A5 : Option Addr) (n5 c5 : Nat), e = .returned (.slice A5 n5 c5) ∧ Below w4.heap.size w4 wc ∧ Hid (RetSh wb PP (.returned (.slice A5 n5 c5)) wc) := (by obtain ⟨A, c, K, h1, h2⟩ := id hwc; subst h1; exact ⟨A, K.length, c, rfl, b4b.trans (h2.2.2.2.mono b4b.size), Lib.hid hwc⟩)
  refine hK.out _ _ (by (try dsimp only); exact HS.out _ (b24.trans (b4c.mono z24))) (fun hHeld => ?_)
  clear hK K
  try simp only [Act.put, List.setIfInBounds_toArray, List.set_cons_zero, List.set_cons_succ]
  refine wpAnyH_ready (rs := [11]) (by kernel_rfl) (by simp) ?_
  refine AllReadyH.cons (o := { dst := some 63, op := Op.call { callee := Callee.value (Operand.func 36), args := #[Operand.tmp 61, Operand.tmp 62], argTypes := #[25, 35] }, type := 25, pos := "law.go:52", after := #[{ on := 9, ground := Ground.data }, { on := 10, ground := Ground.data }, { on := 8, ground := Ground.chain }, { on := 5, ground := Ground.guard }], guard := some (5, true) }) rfl (fun K hK => ?_) AllReadyH.nil
  go_simp
  refine (HP2.out _ (bb4.trans (b4c.mono bb4.size))).mono ?_; rintro e wd hwd; obtain ⟨A5', n5', c5', A6, n6, c6, e5, rfl, -, hbd, HSa⟩ := same_ret HPl.out hq5.out hwd; injection e5 with e5; injection e5 with e51 e52 e53; subst e51 e52 e53; have b4d : Below w4.heap.size w4 wd := b4b.trans (hbd.mono b4b.size)
  refine hK.out _ _ (by (try dsimp only); exact HS.out _ (b24.trans (b4d.mono z24))) (fun hHeld => ?_)
  clear hK K
  try simp only [Act.put, List.setIfInBounds_toArray, List.set_cons_zero, List.set_cons_succ]
  refine wpAnyH_ready (rs := [12]) (by kernel_rfl) (by simp) ?_
  refine AllReadyH.cons (o := { dst := some 64, op := Op.call { callee := Callee.value (Operand.func 35), args := #[Operand.tmp 60, Operand.tmp 63], argTypes := #[25, 25] }, type := 4, pos := "law.go:52", after := #[{ on := 8, ground := Ground.data }, { on := 11, ground := Ground.data }, { on := 11, ground := Ground.chain }, { on := 5, ground := Ground.guard }], guard := some (5, true) }) rfl (fun K hK => ?_) AllReadyH.nil
  go_simp
  refine HSa.out.mono ?_; rintro e we ⟨rfl, hbe⟩; have b4e : Below w4.heap.size w4 we := b4d.trans (hbe.mono b4d.size)
  refine hK.out _ _ (by (try dsimp only); exact HS.out _ (b24.trans (b4e.mono z24))) (fun hHeld => ?_)
  clear hK K
  try simp only [Act.put, List.setIfInBounds_toArray, List.set_cons_zero, List.set_cons_succ]
  refine wpAnyH_take (i := 13) (oi := { dst := some 65, op := Op.pick (Operand.tmp 57) (Operand.tmp 64) (Operand.const (Value.bool false)), type := 4, pos := "law.go:52", after := #[{ on := 5, ground := Ground.data }, { on := 12, ground := Ground.data }], guard := none }) (v := ?_) rfl (by kernel_rfl) (by kernel_rfl) (by kernel_rfl) (fun _ _ _ h => h) (Or.inl ⟨by rfl, ?_⟩) (by assumption) ?_
  rotate_left
  · (intro w hSw; (try dsimp only at hSw); go_simp); (try with_reducible rfl)
  try simp only [Act.put, List.setIfInBounds_toArray, List.set_cons_zero, List.set_cons_succ]
  refine wpAnyH_take (i := 14) (oi := { dst := some 66, op := Op.move (Operand.tmp 65), type := 4, pos := "law.go:52", after := #[{ on := 13, ground := Ground.data }, { on := 12, ground := Ground.chain }], guard := none }) (v := ?_) rfl (by kernel_rfl) (by kernel_rfl) (by kernel_rfl) (fun _ _ _ h => h) (Or.inl ⟨by rfl, ?_⟩) (by assumption) ?_
  rotate_left
  · (intro w hSw; (try dsimp only at hSw); go_simp); (try with_reducible rfl)
  try simp only [Act.put, List.setIfInBounds_toArray, List.set_cons_zero, List.set_cons_succ]
  refine wpAnyH_take (i := 15) (oi := { dst := some 67, op := Op.move (Operand.tmp 0), type := 25, pos := "law.go:52", after := #[{ on := 14, ground := Ground.guard }], guard := some (14, true) }) (v := ?_) rfl (by kernel_rfl) (by kernel_rfl) (by kernel_rfl) (fun _ _ _ h => h) (Or.inl ⟨by rfl, ?_⟩) (by assumption) ?_
  rotate_left
  · (intro w hSw; (try dsimp only at hSw); go_simp); (try with_reducible rfl)
  try simp only [Act.put, List.setIfInBounds_toArray, List.set_cons_zero, List.set_cons_succ]
  refine wpAnyH_take (i := 16) (oi := { dst := some 68, op := Op.move (Operand.tmp 2), type := 3, pos := "law.go:52", after := #[{ on := 14, ground := Ground.guard }], guard := some (14, true) }) (v := ?_) rfl (by kernel_rfl) (by kernel_rfl) (by kernel_rfl) (fun _ _ _ h => h) (Or.inl ⟨by rfl, ?_⟩) (by assumption) ?_
  rotate_left
  · (intro w hSw; (try dsimp only at hSw); go_simp); (try with_reducible rfl)
  try simp only [Act.put, List.setIfInBounds_toArray, List.set_cons_zero, List.set_cons_succ]
  refine wpAnyH_take (i := 18) (oi := { dst := some 70, op := Op.move (Operand.tmp 0), type := 25, pos := "law.go:52", after := #[{ on := 14, ground := Ground.guard }], guard := some (14, true) }) (v := ?_) rfl (by kernel_rfl) (by kernel_rfl) (by kernel_rfl) (fun _ _ _ h => h) (Or.inl ⟨by rfl, ?_⟩) (by assumption) ?_
  rotate_left
  · (intro w hSw; (try dsimp only at hSw); go_simp); (try with_reducible rfl)
  try simp only [Act.put, List.setIfInBounds_toArray, List.set_cons_zero, List.set_cons_succ]
  refine wpAnyH_take (i := 19) (oi := { dst := some 71, op := Op.move (Operand.tmp 2), type := 3, pos := "law.go:52", after := #[{ on := 14, ground := Ground.guard }], guard := some (14, true) }) (v := ?_) rfl (by kernel_rfl) (by kernel_rfl) (by kernel_rfl) (fun _ _ _ h => h) (Or.inl ⟨by rfl, ?_⟩) (by assumption) ?_
  rotate_left
  · (intro w hSw; (try dsimp only at hSw); go_simp); (try with_reducible rfl)
  try simp only [Act.put, List.setIfInBounds_toArray, List.set_cons_zero, List.set_cons_succ]
  refine wpAnyH_ready (rs := [17]) (by kernel_rfl) (by simp) ?_
  refine AllReadyH.cons (o := { dst := some 69, op := Op.call { callee := Callee.value (Operand.func 21), args := #[Operand.tmp 67, Operand.tmp 68], argTypes := #[25, 3] }, type := 25, pos := "law.go:52", after := #[{ on := 15, ground := Ground.data }, { on := 16, ground := Ground.data }, { on := 14, ground := Ground.chain }, { on := 14, ground := Ground.guard }], guard := some (14, true) }) rfl (fun K hK => ?_) AllReadyH.nil
  go_simp
  refine (HK1.out _ (bb4.trans (b4e.mono bb4.size))).mono ?_; rintro e wf hwf; obtain ⟨A7, n7, c7, rfl, b4f, hq7⟩ : ∃ (A7 : Option Addr) (n7 c7 : Nat), e = .returned (.slice A7 n7 c7) ∧ Below w4.heap.size w4 wf ∧ Hid (RetSh we PK (.returned (.slice A7 n7 c7)) wf) := (by obtain ⟨A, c, K, h1, h2⟩ := id hwf; subst h1; exact ⟨A, K.length, c, rfl, b4e.trans (h2.2.2.2.mono b4e.size), Lib.hid hwf⟩)
  refine hK.out _ _ (by (try dsimp only); exact HS.out _ (b24.trans (b4f.mono z24))) (fun hHeld => ?_)
  clear hK K
  try simp only [Act.put, List.setIfInBounds_toArray, List.set_cons_zero, List.set_cons_succ]
  refine wpAnyH_ready (rs := [20]) (by kernel_rfl) (by simp) ?_
  refine AllReadyH.cons (o := { dst := some 72, op := Op.call { callee := Callee.value (Operand.func 37), args := #[Operand.tmp 70, Operand.tmp 71], argTypes := #[25, 3] }, type := 25, pos := "law.go:52", after := #[{ on := 18, ground := Ground.data }, { on := 19, ground := Ground.data }, { on := 17, ground := Ground.chain }, { on := 14, ground := Ground.guard }], guard := some (14, true) }) rfl (fun K hK => ?_) AllReadyH.nil
  go_simp
  refine (HK2.out _ (bb4.trans (b4f.mono bb4.size))).mono ?_; rintro e wg hwg; obtain ⟨A7', n7', c7', A8, n8, c8, e7, rfl, -, hbg, HSb⟩ := same_ret HKl.out hq7.out hwg; injection e7 with e7; injection e7 with e71 e72 e73; subst e71 e72 e73; have b4g : Below w4.heap.size w4 wg := b4e.trans (hbg.mono b4e.size)
  refine hK.out _ _ (by (try dsimp only); exact HS.out _ (b24.trans (b4g.mono z24))) (fun hHeld => ?_)
  clear hK K
  try simp only [Act.put, List.setIfInBounds_toArray, List.set_cons_zero, List.set_cons_succ]
  refine wpAnyH_ready (rs := [21]) (by kernel_rfl) (by simp) ?_
  refine AllReadyH.cons (o := { dst := some 73, op := Op.call { callee := Callee.value (Operand.func 35), args := #[Operand.tmp 69, Operand.tmp 72], argTypes := #[25, 25] }, type := 4, pos := "law.go:52", after := #[{ on := 17, ground := Ground.data }, { on := 20, ground := Ground.data }, { on := 20, ground := Ground.chain }, { on := 14, ground := Ground.guard }], guard := some (14, true) }) rfl (fun K hK => ?_) AllReadyH.nil
  go_simp
  refine HSb.out.mono ?_; rintro e wh ⟨rfl, hbh⟩; have b4h : Below w4.heap.size w4 wh := b4g.trans (hbh.mono b4g.size)
  refine hK.out _ _ (by (try dsimp only); exact HS.out _ (b24.trans (b4h.mono z24))) (fun hHeld => ?_)
  clear hK K
  try simp only [Act.put, List.setIfInBounds_toArray, List.set_cons_zero, List.set_cons_succ]
  refine wpAnyH_take (i := 22) (oi := { dst := some 74, op := Op.pick (Operand.tmp 66) (Operand.tmp 73) (Operand.const (Value.bool false)), type := 4, pos := "law.go:52", after := #[{ on := 14, ground := Ground.data }, { on := 21, ground := Ground.data }], guard := none }) (v := ?_) rfl (by kernel_rfl) (by kernel_rfl) (by kernel_rfl) (fun _ _ _ h => h) (Or.inl ⟨by rfl, ?_⟩) (by assumption) ?_
  rotate_left
  · (intro w hSw; (try dsimp only at hSw); go_simp); (try with_reducible rfl)
  try simp only [Act.put, List.setIfInBounds_toArray, List.set_cons_zero, List.set_cons_succ]
  refine wpAnyH_take (i := 23) (oi := { dst := some 18, op := Op.assign (Operand.tmp 74), type := 4, pos := "law.go:52", after := #[{ on := 22, ground := Ground.data }, { on := 21, ground := Ground.chain }, { on := 0, ground := Ground.phase }, { on := 1, ground := Ground.phase }, { on := 2, ground := Ground.phase }, { on := 3, ground := Ground.phase }, { on := 4, ground := Ground.phase }, { on := 5, ground := Ground.phase }, { on := 6, ground := Ground.phase }, { on := 7, ground := Ground.phase }, { on := 8, ground := Ground.phase }, { on := 9, ground := Ground.phase }, { on := 10, ground := Ground.phase }, { on := 11, ground := Ground.phase }, { on := 12, ground := Ground.phase }, { on := 13, ground := Ground.phase }, { on := 14, ground := Ground.phase }, { on := 15, ground := Ground.phase }, { on := 16, ground := Ground.phase }, { on := 17, ground := Ground.phase }, { on := 18, ground := Ground.phase }, { on := 19, ground := Ground.phase }, { on := 20, ground := Ground.phase }, { on := 21, ground := Ground.phase }, { on := 22, ground := Ground.phase }], guard := none }) (v := ?_) rfl (by kernel_rfl) (by kernel_rfl) (by kernel_rfl) (fun _ _ _ h => h) (Or.inl ⟨by rfl, ?_⟩) (by assumption) ?_
  rotate_left
  · (intro w hSw; (try dsimp only at hSw); go_simp); (try with_reducible rfl)
  try simp only [Act.put, List.setIfInBounds_toArray, List.set_cons_zero, List.set_cons_succ]
  refine wpAnyH_done (by kernel_rfl) ?_ _
  refine NoPanic.normal ?_
  clear HS HC1 HC2 HP1 HP2 HK1 HK2
  have HL := Lib.hid (rlists_yes ((Sl.of_own o34).below b4h (Nat.le_refl _)) (bs34.below b4h (Nat.le_refl _)) ((Sl.of_own o4).below b4h (Nat.le_refl _)) (bs4.below b4h (Nat.le_refl _)) (len_own o34))
  have F := Lib.hid (fun (k : Nat) => below_drewN (bb4.trans (b4h.mono bb4.size)) k)
  clear o34 bs34 o4 bs4 b4h b00
  have hbq : (qo == qo) = true := by cases qo <;> rfl
  go_wp2_with fail
  refine HL.out.mono ?_
  rintro e w9 ⟨rfl, k9, rfl⟩
  go_wp2_with fail
  go_ret
  exact ⟨rfl, F.out k9⟩
end Go.Proofs.Ytfeeincglijmjaa
