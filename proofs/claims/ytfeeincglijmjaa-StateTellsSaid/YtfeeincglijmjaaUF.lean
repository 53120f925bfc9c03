/- The document's Make. -/
import Derived.Test.YtfeeincglijmjaaSN
import Derived.Test.YtfeeincglijmjaaUB
import Derived.Test.YtfeeincglijmjaaUD
import Derived.Test.YtfeeincglijmjaaDM
namespace Go.Proofs.Ytfeeincglijmjaa
open Go.RowKit
set_option linter.unusedVariables false
set_option linter.unusedSimpArgs false
attribute [local go_sem ↓] Go.wp_at_zero Go.wp_at_succ


set_option maxHeartbeats 8000000 in
set_option maxRecDepth 100000 in
theorem rmake_any {up : Nat} {A : Option Addr} {n c : Nat} {l : List Shn} {z : Int} {w : World} (hr : Shs w up A n c l) (hup : up ≤ w.heap.size) (hn : n ≤ 9223372036854775807) :
    Calls Try.prog 32 #[.slice A n c, .int .i64 z] w (RetMk w (dMake (l.map Shn.p) z)) := by
  have HCk := Lib.hid (rscheck_any hr hup hn)
  have hlen := hr.len
  subst hlen
  by_cases hno : sCheck (l.map Shn.p) = true ∧ l.length ≠ 1
  rotate_left
  · have hf : dMake (l.map Shn.p) z = (0, 0, [], false) := by unfold dMake; rw [if_neg (by rw [List.length_map]; exact hno)]
    rw [hf]
    cases hck : sCheck (l.map Shn.p)
    · rw [hck] at HCk
      clear hf hck hr hno
      go_enter Try.func32, Try.ntmps32
      go_wp2_with fail
      refine HCk.out.mono ?_
      rintro e w1 ⟨rfl, b1⟩
      have F := Lib.hid (RetMk.nil0 b1)
      go_wp2_with fail
      (try simp only [Exit.inBlock, Exit.then])
      refine bodyPost_ret (results_tmp4 rfl _ _ _) rfl ?_
      exact F.out
    · rw [hck] at HCk
      have h1 : l.length = 1 := by
        rcases Nat.decEq l.length 1 with h | h
        · exact absurd ⟨hck, h⟩ hno
        · exact h
      have h1I : (l.length : Int) = 1 := by omega
      clear hf hck hr hno
      rw [h1] at HCk ⊢
      go_enter Try.func32, Try.ntmps32
      go_wp2_with fail
      refine HCk.out.mono ?_
      rintro e w1 ⟨rfl, b1⟩
      have F := Lib.hid (RetMk.nil0 b1)
      go_wp2_with fail
      (try simp only [Exit.inBlock, Exit.then])
      refine bodyPost_ret (results_tmp4 rfl _ _ _) rfl ?_
      exact F.out
  obtain ⟨hck, hl1⟩ := hno
  obtain ⟨hl0, hl8, hmem⟩ := sCheck_parts hck
  rw [List.length_map] at hl0 hl8
  obtain ⟨x, hx⟩ : ∃ x, l.getLast? = some x := by
    cases h : l.getLast? with
    | none => rw [List.getLast?_eq_none_iff] at h; subst h; exact absurd hl0 (by decide)
    | some x => exact ⟨x, rfl⟩
  obtain ⟨y, hy⟩ : ∃ y, l.head? = some y := by
    cases h : l.head? with
    | none => rw [List.head?_eq_none_iff] at h; subst h; exact absurd hl0 (by decide)
    | some x => exact ⟨x, rfl⟩
  have hxl : x ∈ l := List.mem_of_getLast? hx
  have hyl : y ∈ l := List.mem_of_head? hy
  have hgx : gOk x.s = true := (hmem x.p (List.mem_map_of_mem hxl)).2.2
  have hgy : gOk y.s = true := (hmem y.p (List.mem_map_of_mem hyl)).2.2
  have hy0 : l[0] = y := by
    cases l with
    | nil => cases hy
    | cons a r => injection hy
  have hf : dMake (l.map Shn.p) z = (y.num, x.num, cParts (dDiff' y.s x.s).1 z, true) := by
    unfold dMake
    rw [if_pos ⟨hck, by rw [List.length_map]; exact hl1⟩, last_map hx, List.head?_map, hy]
    rfl
  rw [hf]
  obtain ⟨b, o, rfl, hbu, hc⟩ := hr.cell hl0
  have hc0 := hc 0 hl0
  rw [hy0, Nat.zero_mul, Nat.add_zero] at hc0
  obtain ⟨m, hm⟩ : ∃ m, l.length = m + 1 := ⟨l.length - 1, by omega⟩
  have hml : m < l.length := by omega
  have hxm : l[m] = x := by
    rw [List.getLast?_eq_getElem?, show l.length - 1 = m from by omega, List.getElem?_eq_getElem hml] at hx
    injection hx
  have hcm := hc m hml
  rw [hxm] at hcm
  have HY := Lib.hid (fun W (q : Below w.heap.size w W) => (show W.rangeAt b o y.v.toList ∧ W.rangeAt b (o + m * 17) x.v.toList from ⟨range_below hc0 q (by omega), range_below hcm q (by omega)⟩))
  have HD := Lib.hid (fun W (q : Below w.heap.size w W) => (show Calls Try.prog 26 #[.agg (y.s.v y.C y.cc y.M y.cm), .agg (x.s.v x.C x.cc x.M x.cm)] W (RetBE W (dDiff' y.s x.s).1 0) by
    have h1 := (hr.below q hup).ok y hyl
    have h2 := (hr.below q hup).ok x hxl
    have := rdiff_any h1.1 (Nat.le_trans hup q.size) h2.1 (Nat.le_trans hup q.size) h1.2 h2.2
    rw [show (dDiff' y.s x.s).2 = 0 by rw [sdiff_ok hgy hgx]] at this
    exact this))
  have hdl := sdiff_len hgy hgx
  rw [hck] at HCk
  have hy16 := Scr.v_size' y.s y.C y.cc y.M y.cm
  have hx16 := Scr.v_size' x.s x.C x.cc x.M x.cm
  have hl0I : (0 : Int) < (l.length : Int) := by omega
  have hl1I : ¬ ((l.length : Int) = 1) := by omega
  have hl1b : ((l.length : Int) == 1) = false := by simp; omega
  have hl1d : decide ((l.length : Int) = 1) = false := by simp; omega
  have e1 : (l.length : Int) - 1 = m := by omega
  have e2 : (m : Int) < l.length := by omega
  have ab0 := addr_add b o 0
  have a1 := addr_add b o (m * 17)
  generalize hdd : (dDiff' y.s x.s).1 = d at *
  clear hr hf hck hmem hgx hgy hxl hyl hx hy hy0 hc hc0 hdd hcm hxm hml hm
  go_enter Try.func32, Try.ntmps32
  go_wp2_with fail
  refine HCk.out.mono ?_
  rintro e w1 ⟨rfl, b1⟩
  clear HCk
  have z1 := b1.size
  obtain ⟨w2, hst2, k2, b2, z2⟩ := shn_new w1 y
  have bb2 := b1.trans (b2.mono z1)
  obtain ⟨w3, hst3, k3, b3, z3⟩ := shn_new w2 x
  have bb3 := bb2.trans (b3.mono bb2.size)
  have hy1 := (HY.out _ b1).1
  have hx2 := (HY.out _ bb2).2
  have k23 := k2.below b3 k2.lt
  have q1 : w3.rangeAt w1.heap.size (0 + 1) (y.s.v y.C y.cc y.M y.cm).toList ∧ (y.s.v y.C y.cc y.M y.cm).size = 16 := ⟨range_tail (blk_range k23), hy16⟩
  have q2 : w3.rangeAt w2.heap.size (0 + 1) (x.s.v x.C x.cc x.M x.cm).toList ∧ (x.s.v x.C x.cc x.M x.cm).size = 16 := ⟨range_tail (blk_range k3), hx16⟩
  have HS := Lib.hid (fun W (q : Below w3.heap.size w3 W) => (show W.cell? ⟨w1.heap.size, 0, none⟩ = some (.int .i64 y.num) ∧ W.cell? ⟨w2.heap.size, 0, none⟩ = some (.int .i64 x.num) from ⟨(k23.below q k23.lt).rules.1 0, (k3.below q k3.lt).rules.1 0⟩))
  clear HY k2 k3 k23 hy16 hx16 b2 b3
  generalize y.s.v y.C y.cc y.M y.cm = cy at *
  generalize x.s.v x.C x.cc x.M x.cm = cx at *
  go_upto_region 6 with (first | ((with_reducible refine wpList_ldh hy1 ?_ ?_); rfl) | ((with_reducible refine wpList_ldh hx2 ?_ ?_); rfl) | ((with_reducible refine wpList_sth hst2 ?_ ?_); exact ⟨rfl, rfl⟩) | ((with_reducible refine wpList_sth hst3 ?_ ?_); exact ⟨rfl, rfl⟩))
  clear hy1 hx2 hst2 hst3 a1 ab0
  have ac1 := addr_add w1.heap.size 0 1
  have ac2 := addr_add w2.heap.size 0 1
  have ac3 := addr_add w1.heap.size 0 0
  have ac4 := addr_add w2.heap.size 0 0
  go_wp2_with (first | ((with_reducible refine wpList_lds q1 ?_ ?_); rfl) | ((with_reducible refine wpList_lds q2 ?_ ?_); rfl))
  refine (HD.out _ bb3).mono ?_
  rintro e w6 ⟨A6, c6, rfl, o6, hb6⟩
  have z6 := hb6.size
  have b36 := hb6.drew
  clear q1 q2 HD
  go_upto_region 7 with fail
  refine wp_region_noPanic ?_
  refine wp_region_held_drew (S := (fun w' : World => w'.cell? ⟨w1.heap.size, 0, none⟩ = some (.int .i64 y.num) ∧ w'.cell? ⟨w2.heap.size, 0, none⟩ = some (.int .i64 x.num))) (by kernel_rfl) (by (try dsimp only); exact HS.out _ b36) (fun hHeld => ?_)
  refine wpAnyH_take (i := 0) (oi := { dst := some 39, op := Op.fieldAddr 39 (Operand.tmp 9) 0, type := 0, pos := "ref.go:86", after := #[], guard := none }) (v := ?_) rfl (by kernel_rfl) (by kernel_rfl) (by kernel_rfl) (fun _ _ _ h => h) (Or.inl ⟨by rfl, ?_⟩) (by assumption) ?_
  rotate_left
  · (intro w hSw; (try dsimp only at hSw); go_simp); (try with_reducible rfl)
  try simp only [Act.put, List.setIfInBounds_toArray, List.set_cons_zero, List.set_cons_succ]
  refine wpAnyH_take (i := 1) (oi := { dst := some 40, op := Op.load 3 (Operand.tmp 39), type := 3, pos := "ref.go:86", after := #[{ on := 0, ground := Ground.data }], guard := none }) (v := ?_) rfl (by kernel_rfl) (by kernel_rfl) (by kernel_rfl) (fun _ _ _ h => h) (Or.inl ⟨by rfl, ?_⟩) (by assumption) ?_
  rotate_left
  · (intro w hSw; (try dsimp only at hSw); go_simp); (try with_reducible rfl)
  try simp only [Act.put, List.setIfInBounds_toArray, List.set_cons_zero, List.set_cons_succ]
  refine wpAnyH_take (i := 2) (oi := { dst := some 41, op := Op.fieldAddr 39 (Operand.tmp 10) 0, type := 0, pos := "ref.go:86", after := #[{ on := 7, ground := Ground.gcOnly Departure.lateStores }], guard := none }) (v := ?_) rfl (by kernel_rfl) (by kernel_rfl) (by kernel_rfl) (fun _ _ _ h => h) (Or.inl ⟨by rfl, ?_⟩) (by assumption) ?_
  rotate_left
  · (intro w hSw; (try dsimp only at hSw); go_simp); (try with_reducible rfl)
  try simp only [Act.put, List.setIfInBounds_toArray, List.set_cons_zero, List.set_cons_succ]
  refine wpAnyH_take (i := 3) (oi := { dst := some 42, op := Op.load 3 (Operand.tmp 41), type := 3, pos := "ref.go:86", after := #[{ on := 2, ground := Ground.data }, { on := 7, ground := Ground.gcOnly Departure.lateStores }], guard := none }) (v := ?_) rfl (by kernel_rfl) (by kernel_rfl) (by kernel_rfl) (fun _ _ _ h => h) (Or.inl ⟨by rfl, ?_⟩) (by assumption) ?_
  rotate_left
  · (intro w hSw; (try dsimp only at hSw); go_simp); (try with_reducible rfl)
  try simp only [Act.put, List.setIfInBounds_toArray, List.set_cons_zero, List.set_cons_succ]
  refine wpAnyH_take (i := 4) (oi := { dst := some 43, op := Op.move (Operand.tmp 11), type := 23, pos := "ref.go:86", after := #[], guard := none }) (v := ?_) rfl (by kernel_rfl) (by kernel_rfl) (by kernel_rfl) (fun _ _ _ h => h) (Or.inl ⟨by rfl, ?_⟩) (by assumption) ?_
  rotate_left
  · (intro w hSw; (try dsimp only at hSw); go_simp); (try with_reducible rfl)
  try simp only [Act.put, List.setIfInBounds_toArray, List.set_cons_zero, List.set_cons_succ]
  refine wpAnyH_take (i := 5) (oi := { dst := some 44, op := Op.move (Operand.tmp 1), type := 3, pos := "ref.go:86", after := #[], guard := none }) (v := ?_) rfl (by kernel_rfl) (by kernel_rfl) (by kernel_rfl) (fun _ _ _ h => h) (Or.inl ⟨by rfl, ?_⟩) (by assumption) ?_
  rotate_left
  · (intro w hSw; (try dsimp only at hSw); go_simp); (try with_reducible rfl)
  try simp only [Act.put, List.setIfInBounds_toArray, List.set_cons_zero, List.set_cons_succ]
  refine wpAnyH_ready (rs := [6]) (by kernel_rfl) (by simp) ?_
  refine AllReadyH.cons (o := { dst := some 45, op := Op.call { callee := Callee.value (Operand.func 72), args := #[Operand.tmp 43, Operand.tmp 44], argTypes := #[23, 3] }, type := 29, pos := "ref.go:86", after := #[{ on := 4, ground := Ground.data }, { on := 5, ground := Ground.data }], guard := none }) rfl (fun K hK => ?_) AllReadyH.nil
  go_simp
  refine (rcut_any (z := z) (Sl.of_own o6).drew (Nat.le_refl _) hdl).mono ?_; rintro e w9 ⟨A9, c9, vs9, rfl, o9, bs9, hb9⟩; have b39 : Below w3.heap.size w3 w9 := b36.trans (hb9.mono b36.size); have b09 : Below w.heap.size w w9 := bb3.trans (b39.mono bb3.size); have F := Lib.hid (show RetMk w (y.num, x.num, cParts d z, true) (.returned (.tuple #[.int .i64 y.num, .int .i64 x.num, .slice A9 (cParts d z).length c9, .bool true])) w9 from ⟨A9, c9, vs9, rfl, own_more o9 (Nat.le_trans bb3.size b36.size), bs9.more (Nat.le_trans bb3.size b36.size), b09⟩)
  refine hK.out _ _ (by (try dsimp only); exact HS.out _ b39) (fun hHeld => ?_)
  clear hK K
  try simp only [Act.put, List.setIfInBounds_toArray, List.set_cons_zero, List.set_cons_succ]
  refine wpAnyH_take (i := 7) (oi := { dst := some 4, op := Op.assign (Operand.tmp 40), type := 3, pos := "ref.go:86", after := #[{ on := 1, ground := Ground.data }, { on := 6, ground := Ground.chain }, { on := 0, ground := Ground.phase }, { on := 1, ground := Ground.phase }, { on := 2, ground := Ground.textOnly Departure.lateStores }, { on := 3, ground := Ground.textOnly Departure.lateStores }, { on := 4, ground := Ground.textOnly Departure.lateStores }, { on := 5, ground := Ground.textOnly Departure.lateStores }, { on := 6, ground := Ground.textOnly Departure.lateStoresUnsure }], guard := none }) (v := ?_) rfl (by kernel_rfl) (by kernel_rfl) (by kernel_rfl) (fun _ _ _ h => h) (Or.inl ⟨by rfl, ?_⟩) (by assumption) ?_
  rotate_left
  · (intro w hSw; (try dsimp only at hSw); go_simp); (try with_reducible rfl)
  try simp only [Act.put, List.setIfInBounds_toArray, List.set_cons_zero, List.set_cons_succ]
  refine wpAnyH_take (i := 8) (oi := { dst := some 5, op := Op.assign (Operand.tmp 42), type := 3, pos := "ref.go:86", after := #[{ on := 3, ground := Ground.data }, { on := 7, ground := Ground.chain }, { on := 0, ground := Ground.phase }, { on := 1, ground := Ground.phase }, { on := 2, ground := Ground.phase }, { on := 3, ground := Ground.phase }, { on := 4, ground := Ground.textOnly Departure.lateStores }, { on := 5, ground := Ground.textOnly Departure.lateStores }, { on := 6, ground := Ground.textOnly Departure.lateStoresUnsure }, { on := 7, ground := Ground.phase }], guard := none }) (v := ?_) rfl (by kernel_rfl) (by kernel_rfl) (by kernel_rfl) (fun _ _ _ h => h) (Or.inl ⟨by rfl, ?_⟩) (by assumption) ?_
  rotate_left
  · (intro w hSw; (try dsimp only at hSw); go_simp); (try with_reducible rfl)
  try simp only [Act.put, List.setIfInBounds_toArray, List.set_cons_zero, List.set_cons_succ]
  refine wpAnyH_take (i := 9) (oi := { dst := some 6, op := Op.assign (Operand.tmp 45), type := 29, pos := "ref.go:86", after := #[{ on := 6, ground := Ground.data }, { on := 8, ground := Ground.chain }, { on := 0, ground := Ground.phase }, { on := 1, ground := Ground.phase }, { on := 2, ground := Ground.phase }, { on := 3, ground := Ground.phase }, { on := 4, ground := Ground.phase }, { on := 5, ground := Ground.phase }, { on := 6, ground := Ground.phase }, { on := 7, ground := Ground.phase }, { on := 8, ground := Ground.phase }], guard := none }) (v := ?_) rfl (by kernel_rfl) (by kernel_rfl) (by kernel_rfl) (fun _ _ _ h => h) (Or.inl ⟨by rfl, ?_⟩) (by assumption) ?_
  rotate_left
  · (intro w hSw; (try dsimp only at hSw); go_simp); (try with_reducible rfl)
  try simp only [Act.put, List.setIfInBounds_toArray, List.set_cons_zero, List.set_cons_succ]
  refine wpAnyH_take (i := 10) (oi := { dst := some 7, op := Op.assign (Operand.const (Value.bool true)), type := 4, pos := "ref.go:86", after := #[{ on := 9, ground := Ground.chain }, { on := 0, ground := Ground.phase }, { on := 1, ground := Ground.phase }, { on := 2, ground := Ground.phase }, { on := 3, ground := Ground.phase }, { on := 4, ground := Ground.phase }, { on := 5, ground := Ground.phase }, { on := 6, ground := Ground.phase }, { on := 7, ground := Ground.phase }, { on := 8, ground := Ground.phase }, { on := 9, ground := Ground.phase }], guard := none }) (v := ?_) rfl (by kernel_rfl) (by kernel_rfl) (by kernel_rfl) (fun _ _ _ h => h) (Or.inl ⟨by rfl, ?_⟩) (by assumption) ?_
  rotate_left
  · (intro w hSw; (try dsimp only at hSw); go_simp); (try with_reducible rfl)
  try simp only [Act.put, List.setIfInBounds_toArray, List.set_cons_zero, List.set_cons_succ]
  refine wpAnyH_done (by kernel_rfl) ?_ _
  refine NoPanic.normal ?_
  go_wp2_with fail
  (try simp only [Exit.inBlock, Exit.then])
  refine bodyPost_ret (results_tmp4 rfl _ _ _) rfl ?_
  exact F.out
end Go.Proofs.Ytfeeincglijmjaa
