/- The document's Push. -/
import Derived.Test.YtfeeincglijmjaaUB
import Derived.Test.YtfeeincglijmjaaUA
import Derived.Test.YtfeeincglijmjaaSK
namespace Go.Proofs.Ytfeeincglijmjaa
open Go.RowKit
set_option linter.unusedVariables false
set_option linter.unusedSimpArgs false
attribute [local go_sem ↓] Go.wp_at_zero Go.wp_at_succ

set_option maxHeartbeats 16000000 in
set_option maxRecDepth 100000 in
theorem rpush_any {up lo2 up2 : Nat} {A : Option Addr} {n c : Nat} {l : List Shn} {s : Scr} {C M : Option Addr} {cc cm : Nat} {w : World} (hr : Shs w up A n c l) (hup : up ≤ w.heap.size) (hn : n ≤ 9223372036854775807) (hat : ScrAt w lo2 up2 s C cc M cm) (hup2 : up2 ≤ w.heap.size) (hl : s.Len) :
    Calls Try.prog 36 #[.slice A n c, .agg (s.v C cc M cm)] w (RetSh w (dPush (l.map Shn.p) s)) := by
  obtain ⟨i0, hi0, hz0, hz1, hz2⟩ := info_parts info39x
  have bb := (Below.refl w.heap.size w).alloc (Nat.le_refl _) (.cells (s.v C cc M cm) 35)
  have kA := Blk.new w 35 (s.v C cc M cm) rfl
  have hz : w.heap.size + 1 ≤ (w.alloc (.cells (s.v C cc M cm) 35)).heap.size := by simp
  have HCk := Lib.hid (fun W (b : Below w.heap.size w W) => rscheck_any (hr.below b hup) (Nat.le_trans hup b.size) hn)
  have HR := Lib.hid (fun W (b : Below w.heap.size w W) => hr.below b hup)
  have hlen := hr.len
  subst hlen
  have hs16 := Scr.v_size' s C cc M cm
  have HG := Lib.hid (fun W (b : Below w.heap.size w W) => rcheck_any (hat.below b hup2) (Nat.le_trans hup2 b.size) hl)
  have Hl := Lib.hid hl
  have HSm := Lib.hid (fun W (b : Below w.heap.size w W) (x : Shn) (hx : x.Ok W W.heap.size) => same_any hx.1 (Nat.le_refl _) (hat.below b hup2) (Nat.le_trans hup2 b.size) hx.2 hl)
  have HCo := Lib.hid (fun W (b : Below w.heap.size w W) (hg : gOk s = true) => rcopy_own (hat.below b hup2) (Nat.le_trans hup2 b.size) ⟨by have := gOk_len hg; omega, by have := gOk_len hg; omega⟩ hg)
  obtain ⟨R, hR⟩ : ∃ R, R = dPush (l.map Shn.p) s := ⟨_, rfl⟩
  rw [← hR]
  generalize s.v C cc M cm = ca at *
  clear hr hat hl
  go_enter Try.func36, Try.ntmps36
  go_upto_region 1 with fail
  generalize w.alloc (.cells ca 35) = w0 at *
  cases hck : sCheck (l.map Shn.p)
  · have hf : R = [] := by rw [hR]; unfold dPush; rw [if_neg (by rw [hck]; decide)]
    subst hf
    rw [hck] at HCk
    clear hR hck HR HG Hl HSm HCo kA
    go_wp2_with fail
    refine (HCk.out _ bb).mono ?_
    rintro e w1 ⟨rfl, b1⟩
    have F := Lib.hid (RetSh.nil0 w w1 (bb.trans (b1.mono bb.size)))
    go_wp2_with fail
    go_ret
    exact F.out
  rw [hck] at HCk
  go_wp2_with fail
  refine (HCk.out _ bb).mono ?_
  rintro e w1 ⟨rfl, b1⟩
  have k1 := kA.below b1 (by omega)
  have bb1 := bb.trans (b1.mono bb.size)
  clear b1 bb kA HCk
  obtain ⟨hl0, hl8, hmem⟩ := sCheck_parts hck
  rw [List.length_map] at hl0 hl8
  obtain ⟨m, hm⟩ : ∃ m, l.length = m + 1 := ⟨l.length - 1, by omega⟩
  have hml : m < l.length := by omega
  obtain ⟨x, hxm⟩ : ∃ x, x = l[m] := ⟨_, rfl⟩
  have hx : l.getLast? = some x := by rw [List.getLast?_eq_getElem?, show l.length - 1 = m from by omega, List.getElem?_eq_getElem hml, hxm]
  have hxl : x ∈ l := List.mem_of_getLast? hx
  have hxn := (hmem x.p (List.mem_map_of_mem hxl))
  have hxn1 : -1 < x.num := hxn.1
  have hxn2 : x.num ≤ 4611686018427387903 := hxn.2.1
  have hRR : R = (if dStill x.p s then l.map Shn.p else dShort (l.map Shn.p ++ [(x.num + 1, s)])) := by rw [hR]; unfold dPush; rw [if_pos hck, last_map hx]; rfl
  have HRR := Lib.hid hRR
  obtain ⟨b, o, rfl, hb, hc⟩ := (HR.out w (Below.refl _ _)).cell hl0
  have HX := Lib.hid (fun W (q : Below w.heap.size w W) => (show W.rangeAt b (o + m * 17) x.v.toList by
    have := hc m hml
    rw [← hxm] at this
    exact range_below this q (by omega)))
  have HOk := Lib.hid (fun W (q : Below w.heap.size w W) (u : Shn) (hu : u ∈ l) => (show Shn.Ok W W.heap.size u from ((HR.out W q).ok u hu).more (Nat.le_trans hup q.size)))
  have HS1 := Lib.hid (fun W (q : Below w1.heap.size w1 W) => (show Hid (W.rangeAt w.heap.size 0 ca.toList) from Lib.hid (blk_range (k1.below q (by have := bb1.size; have := k1.lt; omega)))))
  have z1 := bb1.size
  have hbox : w.heap.size < w1.heap.size := k1.lt
  have T1 := (HR.out _ (bb1.alloc bb1.size (.cells #[] 39))).sl
  have hb1 : Below w1.heap.size w1 (w1.alloc (.cells #[] 39)) := (Below.refl _ _).alloc (Nat.le_refl _) _
  have e1 : (l.length : Int) - 1 = m := by omega
  have e2 : (m : Int) < l.length := by omega
  have a1 := addr_add b o (m * 17)
  have Hxl := Lib.hid hxl
  have Hm := Lib.hid hm
  clear hmem hxn hck hR hRR hx hxl k1 hxm hc HR hm hml
  go_upto_region 5 with (at_builtin; refine wpList_append_sl _ rfl (.tmp 13) (.tmp 14) 25 rfl w1.heap.size 39 i0 _ 17 144 Try.underlying25 hi0 hz0 hz1 hz2 rfl (by omega) (.slice (some ⟨w1.heap.size, 0, none⟩) 0 0) 0 [] rfl (own_made rfl (Nat.le_refl _)) 0 up (some ⟨b, o, none⟩) l.length c (shCells l) rfl T1 (shCells_one _) l.length (by omega) _ rfl (by unfold maxLen; omega) (by omega) (by simp) ?_; intro A4 c4 w4 own4 hg4)
  rw [List.nil_append] at own4
  have b4 : Below w1.heap.size w1 w4 := hb1.grown hg4 (by simp) (fun k e => by cases e; exact Nat.le_refl _)
  have bb4 := bb1.trans (b4.mono z1)
  have z4 := b4.size
  obtain ⟨w5, hst5, k5, b5, z5⟩ := shn_new w4 x
  have hX4 := HX.out _ bb4
  clear T1 hb1 hg4
  go_upto_region 6 with (first | ((with_reducible refine wpList_ldh hX4 ?_ ?_); rfl) | ((with_reducible refine wpList_sth hst5 ?_ ?_); exact ⟨rfl, rfl⟩))
  clear hst5 hX4 HX a1
  have b15 := b4.trans (b5.mono z4)
  have z15 := b15.size
  have bb5 := bb1.trans (b15.mono z1)
  have own5 := own_below own4 b5 (Nat.le_refl _)
  have HL4 := Lib.hid own4.lt
  have hx16 := Scr.v_size' x.s x.C x.cc x.M x.cm
  have hk5 := range_tail (x := x) (blk_range k5)
  have HQ := Lib.hid (fun W (q : Below w5.heap.size w5 W) => (show (W.rangeAt w4.heap.size (0 + 1) (x.s.v x.C x.cc x.M x.cm).toList ∧ (x.s.v x.C x.cc x.M x.cm).size = 16) ∧ (W.rangeAt w.heap.size 0 ca.toList ∧ ca.size = 16) from ⟨⟨range_below hk5 q (by omega), hx16⟩, ⟨(HS1.out W (b15.trans (q.mono z15))).out, hs16⟩⟩))
  have HK := Lib.hid (fun W (q : Below w5.heap.size w5 W) => (show W.cell? ⟨w4.heap.size, 0, none⟩ = some (.int .i64 x.num) from (k5.below q k5.lt).rules.1 0))
  have HA5 := Lib.hid (fun W b => HSm.out W b x (HOk.out W b x Hxl.out))
  have HK5 := Lib.hid k5
  clear own4 hk5 hx16 HSm b4 b5 k5
  generalize hcx : x.s.v x.C x.cc x.M x.cm = cx at *
  clear hcx
  obtain ⟨q1, q2⟩ := HQ.out _ (Below.refl _ _)
  have ab1 := addr_add w4.heap.size 0 1
  have ab0 := addr_add w4.heap.size 0 0
  go_wp2_with (first | ((with_reducible refine wpList_lds q1 ?_ ?_); rfl) | ((with_reducible refine wpList_lds q2 ?_ ?_); rfl))
  refine (HA5.out _ bb5).mono ?_
  rintro e w6 ⟨rfl, b6⟩
  have z6 := b6.size
  have bb6 := bb5.trans (b6.mono (by omega))
  clear q1 q2 HA5
  obtain ⟨-, q2⟩ := HQ.out _ b6
  cases hg : gOk s
  · rw [hg] at HG
    simp only [Bool.false_eq_true, if_false] at HG
    have F := Lib.hid (fun w7 (q : Below w5.heap.size w5 w7) => (show RetSh w R (.returned (.slice A4 l.length c4)) w7 by
      have e := HRR.out
      rw [show dStill x.p s = true by unfold dStill; rw [hg]; rfl, if_pos rfl] at e
      have bb7 := bb5.trans (q.mono (by omega))
      exact ⟨A4, c4, l, rfl, e.symm, own_more (own_below own5 q (Nat.le_refl _)) z1, fun u hu => HOk.out _ bb7 u hu, bb7⟩))
    clear hg HCo Hl own5
    go_wp2_with ((with_reducible refine wpList_lds q2 ?_ ?_); rfl)
    refine (HG.out _ bb6).mono ?_
    rintro e w7 ⟨rfl, b7⟩
    have F2 := Lib.hid (F.out _ (b6.trans (b7.mono z6)))
    clear F q2
    go_wp2_with fail
    go_ret
    exact F2.out
  rw [hg] at HG
  simp only [if_true] at HG
  have HC2 := Lib.hid (fun W b => HCo.out W b hg)
  have Hg := Lib.hid hg
  clear hg HCo
  cases ha : gSame x.s s
  rotate_left
  · have F := Lib.hid (fun w7 (q : Below w5.heap.size w5 w7) => (show RetSh w R (.returned (.slice A4 l.length c4)) w7 by
      have e := HRR.out
      rw [show dStill x.p s = true by unfold dStill; rw [show gSame x.p.2 s = true from ha, Hg.out]; rfl, if_pos rfl] at e
      have bb7 := bb5.trans (q.mono (by omega))
      exact ⟨A4, c4, l, rfl, e.symm, own_more (own_below own5 q (Nat.le_refl _)) z1, fun u hu => HOk.out _ bb7 u hu, bb7⟩))
    clear ha HC2 Hl own5
    go_wp2_with ((with_reducible refine wpList_lds q2 ?_ ?_); rfl)
    refine (HG.out _ bb6).mono ?_
    rintro e w7 ⟨rfl, b7⟩
    have F2 := Lib.hid (F.out _ (b6.trans (b7.mono z6)))
    clear F q2
    go_wp2_with fail
    go_ret
    exact F2.out
  have Ha := Lib.hid ha
  clear ha
  by_cases hnum : x.num = 4611686018427387903
  · have F := Lib.hid (fun w7 (q : Below w5.heap.size w5 w7) => (show RetSh w R (.returned (.slice A4 l.length c4)) w7 by
      have e := HRR.out
      rw [show dStill x.p s = true by unfold dStill; rw [show gSame x.p.2 s = false from Ha.out, Hg.out, show (x.p.1 == 4611686018427387903) = true from by rw [show x.p.1 = x.num from rfl, hnum]; rfl]; rfl, if_pos rfl] at e
      have bb7 := bb5.trans (q.mono (by omega))
      exact ⟨A4, c4, l, rfl, e.symm, own_more (own_below own5 q (Nat.le_refl _)) z1, fun u hu => HOk.out _ bb7 u hu, bb7⟩))
    have hnb : (x.num == 4611686018427387903) = true := by rw [hnum]; rfl
    clear HC2 Hl own5 hnum
    go_wp2_with ((with_reducible refine wpList_lds q2 ?_ ?_); rfl)
    refine (HG.out _ bb6).mono ?_
    rintro e w7 ⟨rfl, b7⟩
    have F2 := Lib.hid (F.out _ (b6.trans (b7.mono z6)))
    have hcn := HK.out _ (b6.trans (b7.mono z6))
    clear F q2
    go_wp2_with fail
    go_ret
    exact F2.out
  have hnb : (x.num == 4611686018427387903) = false := beq_eq_false_iff_ne.2 hnum
  have hst : dStill x.p s = false := by unfold dStill; rw [show gSame x.p.2 s = false from Ha.out, Hg.out, show (x.p.1 == 4611686018427387903) = false from hnb]; rfl
  have HR2 := Lib.hid (show R = dShort (l.map Shn.p ++ [(x.num + 1, s)]) by rw [HRR.out, hst]; rfl)
  have hwr : IntKind.i64.wrap (x.num + 1) = x.num + 1 := IntWalk.i64_in _ (by omega)
  clear HRR hst Ha Hg hnum
  go_wp2_with ((with_reducible refine wpList_lds q2 ?_ ?_); rfl)
  refine (HG.out _ bb6).mono ?_
  rintro e w7 ⟨rfl, b7⟩
  have b57 := b6.trans (b7.mono z6)
  have hcn := HK.out _ b57
  clear q2 b6 b7 HG
  go_upto_region 9 with fail
  clear hcn
  have bd : Below w5.heap.size w5 w7.drew := b57.drew
  have zd := bd.size
  clear b57 bb6 z6
  by_cases h9 : l.length + 1 ≤ 8
  · have F := Lib.hid (fun (w10 : World) (A10 : Option Addr) (c10 : Nat) (y : Shn) (hy : y.num = x.num + 1 ∧ y.s = s) (bb10 : Below w.heap.size w w10) (hok : y.Ok w10 w10.heap.size) (own10 : w10.ownsRow w1.heap.size 39 17 (.slice A10 (l.length + 1) c10) (l.length + 1) (shCells l ++ shCells [y])) => (show RetSh w R (.returned (.slice A10 (l.length + 1) c10)) w10 by
      have e3 : (l ++ [y]).length = l.length + 1 := by rw [List.length_append]; rfl
      refine ⟨A10, c10, l ++ [y], by rw [e3], ?_, by rw [e3, shCells_append]; exact own_more own10 z1, fun u hu => ?_, bb10⟩
      · rw [HR2.out, List.map_append]
        unfold dShort
        rw [if_pos (by simp; omega)]
        simp only [List.map_cons, List.map_nil, Shn.p, hy.1, hy.2]
      · rcases List.mem_append.1 hu with hu | hu
        · exact HOk.out _ bb10 u hu
        · rw [List.mem_singleton] at hu; subst hu; exact hok))
    have hS8 : l.length + 1 ≤ 8 := h9
    clear HR2
    refine wp_region_noPanic ?_
    refine wp_region_held_drew (S := (fun w' : World => Hid (w'.rangeAt w.heap.size 0 ca.toList) ∧ w'.cell? ⟨w4.heap.size, 0, none⟩ = some (.int .i64 x.num))) (by kernel_rfl) (by (try dsimp only); exact ⟨HS1.out _ (b15.trans (bd.mono z15)), HK.out _ bd⟩) (fun hHeld => ?_)
    refine wpAnyH_take (i := 0) (oi := { dst := some 38, op := Op.move (Operand.tmp 6), type := 25, pos := "ref.go:55", after := #[], guard := none }) (v := ?_) rfl (by kernel_rfl) (by kernel_rfl) (by kernel_rfl) (fun _ _ _ h => h) (Or.inl ⟨by rfl, ?_⟩) (by assumption) ?_
    rotate_left
    · (intro w hSw; (try dsimp only at hSw); go_simp); (try with_reducible rfl)
    try simp only [Act.put, List.setIfInBounds_toArray, List.set_cons_zero, List.set_cons_succ]
    refine wpAnyH_take (i := 1) (oi := { dst := some 39, op := Op.fieldAddr 39 (Operand.tmp 7) 0, type := 0, pos := "ref.go:55", after := #[], guard := none }) (v := ?_) rfl (by kernel_rfl) (by kernel_rfl) (by kernel_rfl) (fun _ _ _ h => h) (Or.inl ⟨by rfl, ?_⟩) (by assumption) ?_
    rotate_left
    · (intro w hSw; (try dsimp only at hSw); go_simp); (try with_reducible rfl)
    try simp only [Act.put, List.setIfInBounds_toArray, List.set_cons_zero, List.set_cons_succ]
    refine wpAnyH_take (i := 2) (oi := { dst := some 40, op := Op.load 3 (Operand.tmp 39), type := 3, pos := "ref.go:55", after := #[{ on := 1, ground := Ground.data }], guard := none }) (v := ?_) rfl (by kernel_rfl) (by kernel_rfl) (by kernel_rfl) (fun _ _ _ h => h) (Or.inl ⟨by rfl, ?_⟩) (by assumption) ?_
    rotate_left
    · (intro w hSw; (try dsimp only at hSw); go_simp); (try with_reducible rfl)
    try simp only [Act.put, List.setIfInBounds_toArray, List.set_cons_zero, List.set_cons_succ]
    refine wpAnyH_take (i := 3) (oi := { dst := some 41, op := Op.binOp BinOp.add 3 (Operand.tmp 40) (Operand.const (Value.int IntKind.i64 1)) 3, type := 3, pos := "ref.go:55", after := #[{ on := 2, ground := Ground.data }], guard := none }) (v := ?_) rfl (by kernel_rfl) (by kernel_rfl) (by kernel_rfl) (fun _ _ _ h => h) (Or.inl ⟨by rfl, ?_⟩) (by assumption) ?_
    rotate_left
    · (intro w hSw; (try dsimp only at hSw); go_simp); (try with_reducible rfl)
    try simp only [Act.put, List.setIfInBounds_toArray, List.set_cons_zero, List.set_cons_succ]
    refine wpAnyH_take (i := 4) (oi := { dst := some 42, op := Op.load 35 (Operand.tmp 3), type := 35, pos := "ref.go:55", after := #[], guard := none }) (v := .agg ca) rfl (by kernel_rfl) (by kernel_rfl) (by kernel_rfl) (fun _ _ _ h => h) (Or.inl ⟨by rfl, fun w hSw => exec_lds hSw.1 hs16 rfl⟩) (by assumption) ?_
    try simp only [Act.put, List.setIfInBounds_toArray, List.set_cons_zero, List.set_cons_succ]
    refine wpAnyH_ready (rs := [5]) (by kernel_rfl) (by simp) ?_
    refine AllReadyH.cons (o := { dst := some 43, op := Op.call { callee := Callee.value (Operand.func 74), args := #[Operand.tmp 42], argTypes := #[35] }, type := 35, pos := "ref.go:55", after := #[{ on := 4, ground := Ground.data }], guard := none }) rfl (fun K hK => ?_) AllReadyH.nil
    go_simp
    refine (HC2.out _ (bb5.trans (bd.mono (by omega)))).mono ?_; rintro e w8 ⟨C8, cc8, M8, cm8, rfl, oC8, oM8, hb8⟩; have b58 : Below w5.heap.size w5 w8 := bd.trans (hb8.mono zd); have z58 := b58.size; have y8 : Shn.Own w8 w5.heap.size ⟨x.num + 1, s, C8, cc8, M8, cm8⟩ := ⟨own_more oC8 zd, own_more oM8 zd, Hl.out⟩; clear oC8 oM8 hb8
    refine hK.out _ _ (by (try dsimp only); exact ⟨HS1.out _ (b15.trans (b58.mono z15)), HK.out _ b58⟩) (fun hHeld => ?_)
    clear hK K
    try simp only [Act.put, List.setIfInBounds_toArray, List.set_cons_zero, List.set_cons_succ]
    refine wpAnyH_take (i := 6) (oi := { dst := some 44, op := Op.build 39 #[(0, Operand.tmp 41), (1, Operand.tmp 43)], type := 39, pos := "ref.go:55", after := #[{ on := 3, ground := Ground.data }, { on := 5, ground := Ground.data }], guard := none }) (v := .agg (Shn.v ⟨x.num + 1, s, C8, cc8, M8, cm8⟩)) rfl (by kernel_rfl) (by kernel_rfl) (by kernel_rfl) (fun _ _ _ h => h) (Or.inl ⟨by rfl, fun w hSw => build39x _ _ _ _ _ _ _ rfl rfl rfl⟩) (by assumption) ?_
    try simp only [Act.put, List.setIfInBounds_toArray, List.set_cons_zero, List.set_cons_succ]
    refine wpAnyH_ready (rs := [7]) (by kernel_rfl) (by simp) ?_
    refine AllReadyH.cons (o := { dst := some 45, op := Op.buildSlice 25 1 #[(0, Operand.tmp 44)], type := 25, pos := "ref.go:55", after := #[{ on := 6, ground := Ground.data }], guard := none }) rfl (fun K hK => ?_) AllReadyH.nil
    skip
    refine step_bs39 rfl ?_; have b59 := b58.alloc z58 (.cells (Shn.v ⟨x.num + 1, s, C8, cc8, M8, cm8⟩) 39); have own9 := own_alloc (own_below own5 b58 (Nat.le_refl _)) (.cells (Shn.v ⟨x.num + 1, s, C8, cc8, M8, cm8⟩) 39)
    refine hK.out _ _ (by (try dsimp only); exact ⟨HS1.out _ (b15.trans (b59.mono z15)), HK.out _ b59⟩) (fun hHeld => ?_)
    clear hK K
    try simp only [Act.put, List.setIfInBounds_toArray, List.set_cons_zero, List.set_cons_succ]
    refine wpAnyH_ready (rs := [8]) (by kernel_rfl) (by simp) ?_
    refine AllReadyH.cons (o := { dst := some 46, op := Op.call { callee := Callee.builtin Builtin.append, args := #[Operand.tmp 38, Operand.tmp 45], argTypes := #[25, 25] }, type := 25, pos := "ref.go:55", after := #[{ on := 0, ground := Ground.data }, { on := 7, ground := Ground.data }, { on := 5, ground := Ground.chain }], guard := none }) rfl (fun K hK => ?_) AllReadyH.nil
    skip
    refine step_append_sl _ rfl (.tmp 38) (.tmp 45) 25 rfl w1.heap.size 39 i0 _ 17 144 Try.underlying25 hi0 hz0 hz1 hz2 rfl (by omega) (.slice A4 l.length c4) l.length (shCells l) (by simp [Act.eval, Act.put]) own9 w8.heap.size (w8.heap.size + 1) (some ⟨w8.heap.size, 0, none⟩) 1 1 (shCells [⟨x.num + 1, s, C8, cc8, M8, cm8⟩]) (by simp [Act.eval, Act.put]) (sl_shn w8 ⟨x.num + 1, s, C8, cc8, M8, cm8⟩ rfl) (shCells_one _) (l.length + 1) rfl _ rfl (by unfold maxLen; omega) (by omega) (by simp; omega) ?_; intro A10 c10 w10 own10 hg10; have b1_10 : Below w1.heap.size w1 w10 := (b15.trans (b59.mono z15)).grown hg10 (by simp; omega) (fun k e => (HL4.out k e).1); have k10 := (HK5.out.below b59 HK5.out.lt).grown hg10 (fun e => by have := HL4.out _ e.symm; omega); have bb10 := bb1.trans (b1_10.mono z1); have y10 := ((y8.alloc (.cells (Shn.v ⟨x.num + 1, s, C8, cc8, M8, cm8⟩) 39)).far own9 hg10).ok; have F10 := Lib.hid (F.out w10 A10 c10 ⟨x.num + 1, s, C8, cc8, M8, cm8⟩ ⟨rfl, rfl⟩ bb10 y10 own10)
    refine hK.out _ _ (by (try dsimp only); exact ⟨HS1.out _ b1_10, k10.rules.1 0⟩) (fun hHeld => ?_)
    clear hK K
    try simp only [Act.put, List.setIfInBounds_toArray, List.set_cons_zero, List.set_cons_succ]
    refine wpAnyH_ready (rs := [9]) (by kernel_rfl) (by simp) ?_
    refine AllReadyH.cons (o := { dst := some 47, op := Op.call { callee := Callee.value (Operand.func 73), args := #[Operand.tmp 46], argTypes := #[25] }, type := 25, pos := "ref.go:55", after := #[{ on := 8, ground := Ground.data }, { on := 8, ground := Ground.chain }], guard := none }) rfl (fun K hK => ?_) AllReadyH.nil
    go_simp
    refine (rshort_same hS8).mono ?_; rintro e w11 ⟨rfl, rfl⟩
    refine hK.out _ _ (by (try dsimp only); exact ⟨HS1.out _ b1_10, k10.rules.1 0⟩) (fun hHeld => ?_)
    clear hK K
    try simp only [Act.put, List.setIfInBounds_toArray, List.set_cons_zero, List.set_cons_succ]
    refine wpAnyH_take (i := 10) (oi := { dst := some 4, op := Op.assign (Operand.tmp 47), type := 25, pos := "ref.go:55", after := #[{ on := 9, ground := Ground.data }, { on := 9, ground := Ground.chain }, { on := 0, ground := Ground.phase }, { on := 1, ground := Ground.phase }, { on := 2, ground := Ground.phase }, { on := 3, ground := Ground.phase }, { on := 4, ground := Ground.phase }, { on := 5, ground := Ground.phase }, { on := 6, ground := Ground.phase }, { on := 7, ground := Ground.phase }, { on := 8, ground := Ground.phase }, { on := 9, ground := Ground.phase }], guard := none }) (v := ?_) rfl (by kernel_rfl) (by kernel_rfl) (by kernel_rfl) (fun _ _ _ h => h) (Or.inl ⟨by rfl, ?_⟩) (by assumption) ?_
    rotate_left
    · (intro w hSw; (try dsimp only at hSw); go_simp); (try with_reducible rfl)
    try simp only [Act.put, List.setIfInBounds_toArray, List.set_cons_zero, List.set_cons_succ]
    refine wpAnyH_done (by kernel_rfl) ?_ _
    refine NoPanic.normal ?_
    go_wp2_with fail
    go_ret
    exact F10.out
  · have F := Lib.hid (fun (w10 w11 : World) (e : Ending) (y : Shn) (hy : y.num = x.num + 1 ∧ y.s = s) (bb10 : Below w.heap.size w w10) (h11 : RetSh w10 (dShort ((l ++ [y]).map Shn.p)) e w11) => (show RetSh w R e w11 by
      have e4 : dShort ((l ++ [y]).map Shn.p) = R := by rw [HR2.out, List.map_append]; simp only [List.map_cons, List.map_nil, Shn.p, hy.1, hy.2]
      rw [← e4]
      exact h11.from bb10))
    clear HR2
    refine wp_region_noPanic ?_
    refine wp_region_held_drew (S := (fun w' : World => Hid (w'.rangeAt w.heap.size 0 ca.toList) ∧ w'.cell? ⟨w4.heap.size, 0, none⟩ = some (.int .i64 x.num))) (by kernel_rfl) (by (try dsimp only); exact ⟨HS1.out _ (b15.trans (bd.mono z15)), HK.out _ bd⟩) (fun hHeld => ?_)
    refine wpAnyH_take (i := 0) (oi := { dst := some 38, op := Op.move (Operand.tmp 6), type := 25, pos := "ref.go:55", after := #[], guard := none }) (v := ?_) rfl (by kernel_rfl) (by kernel_rfl) (by kernel_rfl) (fun _ _ _ h => h) (Or.inl ⟨by rfl, ?_⟩) (by assumption) ?_
    rotate_left
    · (intro w hSw; (try dsimp only at hSw); go_simp); (try with_reducible rfl)
    try simp only [Act.put, List.setIfInBounds_toArray, List.set_cons_zero, List.set_cons_succ]
    refine wpAnyH_take (i := 1) (oi := { dst := some 39, op := Op.fieldAddr 39 (Operand.tmp 7) 0, type := 0, pos := "ref.go:55", after := #[], guard := none }) (v := ?_) rfl (by kernel_rfl) (by kernel_rfl) (by kernel_rfl) (fun _ _ _ h => h) (Or.inl ⟨by rfl, ?_⟩) (by assumption) ?_
    rotate_left
    · (intro w hSw; (try dsimp only at hSw); go_simp); (try with_reducible rfl)
    try simp only [Act.put, List.setIfInBounds_toArray, List.set_cons_zero, List.set_cons_succ]
    refine wpAnyH_take (i := 2) (oi := { dst := some 40, op := Op.load 3 (Operand.tmp 39), type := 3, pos := "ref.go:55", after := #[{ on := 1, ground := Ground.data }], guard := none }) (v := ?_) rfl (by kernel_rfl) (by kernel_rfl) (by kernel_rfl) (fun _ _ _ h => h) (Or.inl ⟨by rfl, ?_⟩) (by assumption) ?_
    rotate_left
    · (intro w hSw; (try dsimp only at hSw); go_simp); (try with_reducible rfl)
    try simp only [Act.put, List.setIfInBounds_toArray, List.set_cons_zero, List.set_cons_succ]
    refine wpAnyH_take (i := 3) (oi := { dst := some 41, op := Op.binOp BinOp.add 3 (Operand.tmp 40) (Operand.const (Value.int IntKind.i64 1)) 3, type := 3, pos := "ref.go:55", after := #[{ on := 2, ground := Ground.data }], guard := none }) (v := ?_) rfl (by kernel_rfl) (by kernel_rfl) (by kernel_rfl) (fun _ _ _ h => h) (Or.inl ⟨by rfl, ?_⟩) (by assumption) ?_
    rotate_left
    · (intro w hSw; (try dsimp only at hSw); go_simp); (try with_reducible rfl)
    try simp only [Act.put, List.setIfInBounds_toArray, List.set_cons_zero, List.set_cons_succ]
    refine wpAnyH_take (i := 4) (oi := { dst := some 42, op := Op.load 35 (Operand.tmp 3), type := 35, pos := "ref.go:55", after := #[], guard := none }) (v := .agg ca) rfl (by kernel_rfl) (by kernel_rfl) (by kernel_rfl) (fun _ _ _ h => h) (Or.inl ⟨by rfl, fun w hSw => exec_lds hSw.1 hs16 rfl⟩) (by assumption) ?_
    try simp only [Act.put, List.setIfInBounds_toArray, List.set_cons_zero, List.set_cons_succ]
    refine wpAnyH_ready (rs := [5]) (by kernel_rfl) (by simp) ?_
    refine AllReadyH.cons (o := { dst := some 43, op := Op.call { callee := Callee.value (Operand.func 74), args := #[Operand.tmp 42], argTypes := #[35] }, type := 35, pos := "ref.go:55", after := #[{ on := 4, ground := Ground.data }], guard := none }) rfl (fun K hK => ?_) AllReadyH.nil
    go_simp
    refine (HC2.out _ (bb5.trans (bd.mono (by omega)))).mono ?_; rintro e w8 ⟨C8, cc8, M8, cm8, rfl, oC8, oM8, hb8⟩; have b58 : Below w5.heap.size w5 w8 := bd.trans (hb8.mono zd); have z58 := b58.size; have y8 : Shn.Own w8 w5.heap.size ⟨x.num + 1, s, C8, cc8, M8, cm8⟩ := ⟨own_more oC8 zd, own_more oM8 zd, Hl.out⟩; clear oC8 oM8 hb8
    refine hK.out _ _ (by (try dsimp only); exact ⟨HS1.out _ (b15.trans (b58.mono z15)), HK.out _ b58⟩) (fun hHeld => ?_)
    clear hK K
    try simp only [Act.put, List.setIfInBounds_toArray, List.set_cons_zero, List.set_cons_succ]
    refine wpAnyH_take (i := 6) (oi := { dst := some 44, op := Op.build 39 #[(0, Operand.tmp 41), (1, Operand.tmp 43)], type := 39, pos := "ref.go:55", after := #[{ on := 3, ground := Ground.data }, { on := 5, ground := Ground.data }], guard := none }) (v := .agg (Shn.v ⟨x.num + 1, s, C8, cc8, M8, cm8⟩)) rfl (by kernel_rfl) (by kernel_rfl) (by kernel_rfl) (fun _ _ _ h => h) (Or.inl ⟨by rfl, fun w hSw => build39x _ _ _ _ _ _ _ rfl rfl rfl⟩) (by assumption) ?_
    try simp only [Act.put, List.setIfInBounds_toArray, List.set_cons_zero, List.set_cons_succ]
    refine wpAnyH_ready (rs := [7]) (by kernel_rfl) (by simp) ?_
    refine AllReadyH.cons (o := { dst := some 45, op := Op.buildSlice 25 1 #[(0, Operand.tmp 44)], type := 25, pos := "ref.go:55", after := #[{ on := 6, ground := Ground.data }], guard := none }) rfl (fun K hK => ?_) AllReadyH.nil
    skip
    refine step_bs39 rfl ?_; have b59 := b58.alloc z58 (.cells (Shn.v ⟨x.num + 1, s, C8, cc8, M8, cm8⟩) 39); have own9 := own_alloc (own_below own5 b58 (Nat.le_refl _)) (.cells (Shn.v ⟨x.num + 1, s, C8, cc8, M8, cm8⟩) 39)
    refine hK.out _ _ (by (try dsimp only); exact ⟨HS1.out _ (b15.trans (b59.mono z15)), HK.out _ b59⟩) (fun hHeld => ?_)
    clear hK K
    try simp only [Act.put, List.setIfInBounds_toArray, List.set_cons_zero, List.set_cons_succ]
    refine wpAnyH_ready (rs := [8]) (by kernel_rfl) (by simp) ?_
    refine AllReadyH.cons (o := { dst := some 46, op := Op.call { callee := Callee.builtin Builtin.append, args := #[Operand.tmp 38, Operand.tmp 45], argTypes := #[25, 25] }, type := 25, pos := "ref.go:55", after := #[{ on := 0, ground := Ground.data }, { on := 7, ground := Ground.data }, { on := 5, ground := Ground.chain }], guard := none }) rfl (fun K hK => ?_) AllReadyH.nil
    skip
    refine step_append_sl _ rfl (.tmp 38) (.tmp 45) 25 rfl w1.heap.size 39 i0 _ 17 144 Try.underlying25 hi0 hz0 hz1 hz2 rfl (by omega) (.slice A4 l.length c4) l.length (shCells l) (by simp [Act.eval, Act.put]) own9 w8.heap.size (w8.heap.size + 1) (some ⟨w8.heap.size, 0, none⟩) 1 1 (shCells [⟨x.num + 1, s, C8, cc8, M8, cm8⟩]) (by simp [Act.eval, Act.put]) (sl_shn w8 ⟨x.num + 1, s, C8, cc8, M8, cm8⟩ rfl) (shCells_one _) (l.length + 1) rfl _ rfl (by unfold maxLen; omega) (by omega) (by simp; omega) ?_; intro A10 c10 w10 own10 hg10; have b1_10 : Below w1.heap.size w1 w10 := (b15.trans (b59.mono z15)).grown hg10 (by simp; omega) (fun k e => (HL4.out k e).1); have k10 := (HK5.out.below b59 HK5.out.lt).grown hg10 (fun e => by have := HL4.out _ e.symm; omega); have bb10 := bb1.trans (b1_10.mono z1); have y10 := ((y8.alloc (.cells (Shn.v ⟨x.num + 1, s, C8, cc8, M8, cm8⟩) 39)).far own9 hg10).ok; have T10 : Shs w10 w10.heap.size A10 (l.length + 1) c10 (l ++ [⟨x.num + 1, s, C8, cc8, M8, cm8⟩]) := ⟨by rw [shCells_append]; exact (Sl.of_own own10).more (Nat.zero_le _) (Nat.le_refl _), fun u hu => (by rcases List.mem_append.1 hu with hu | hu; exact HOk.out _ bb10 u hu; rw [List.mem_singleton] at hu; subst hu; exact y10)⟩
    refine hK.out _ _ (by (try dsimp only); exact ⟨HS1.out _ b1_10, k10.rules.1 0⟩) (fun hHeld => ?_)
    clear hK K
    try simp only [Act.put, List.setIfInBounds_toArray, List.set_cons_zero, List.set_cons_succ]
    refine wpAnyH_ready (rs := [9]) (by kernel_rfl) (by simp) ?_
    refine AllReadyH.cons (o := { dst := some 47, op := Op.call { callee := Callee.value (Operand.func 73), args := #[Operand.tmp 46], argTypes := #[25] }, type := 25, pos := "ref.go:55", after := #[{ on := 8, ground := Ground.data }, { on := 8, ground := Ground.chain }], guard := none }) rfl (fun K hK => ?_) AllReadyH.nil
    go_simp
    refine (rshort_cut T10 (Nat.le_refl _) (by omega) (by omega)).mono ?_; rintro e w11 h11; have F11 := Lib.hid (F.out w10 w11 e ⟨x.num + 1, s, C8, cc8, M8, cm8⟩ ⟨rfl, rfl⟩ bb10 h11); obtain ⟨A11, c11, K11, rfl, -, -, -, hb11⟩ := h11; have b1_11 : Below w1.heap.size w1 w11 := b1_10.trans (hb11.mono b1_10.size); have k11 := k10.later hb11
    refine hK.out _ _ (by (try dsimp only); exact ⟨HS1.out _ b1_11, k11.rules.1 0⟩) (fun hHeld => ?_)
    clear hK K
    try simp only [Act.put, List.setIfInBounds_toArray, List.set_cons_zero, List.set_cons_succ]
    refine wpAnyH_take (i := 10) (oi := { dst := some 4, op := Op.assign (Operand.tmp 47), type := 25, pos := "ref.go:55", after := #[{ on := 9, ground := Ground.data }, { on := 9, ground := Ground.chain }, { on := 0, ground := Ground.phase }, { on := 1, ground := Ground.phase }, { on := 2, ground := Ground.phase }, { on := 3, ground := Ground.phase }, { on := 4, ground := Ground.phase }, { on := 5, ground := Ground.phase }, { on := 6, ground := Ground.phase }, { on := 7, ground := Ground.phase }, { on := 8, ground := Ground.phase }, { on := 9, ground := Ground.phase }], guard := none }) (v := ?_) rfl (by kernel_rfl) (by kernel_rfl) (by kernel_rfl) (fun _ _ _ h => h) (Or.inl ⟨by rfl, ?_⟩) (by assumption) ?_
    rotate_left
    · (intro w hSw; (try dsimp only at hSw); go_simp); (try with_reducible rfl)
    try simp only [Act.put, List.setIfInBounds_toArray, List.set_cons_zero, List.set_cons_succ]
    refine wpAnyH_done (by kernel_rfl) ?_ _
    refine NoPanic.normal ?_
    go_wp2_with fail
    go_ret
    exact F11.out
end Go.Proofs.Ytfeeincglijmjaa
