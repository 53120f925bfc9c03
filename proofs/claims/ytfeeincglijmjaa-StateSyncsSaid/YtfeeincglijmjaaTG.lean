/- The walk of the state laws' awake. -/
import Derived.Test.YtfeeincglijmjaaTE
import Derived.Test.YtfeeincglijmjaaTC
import Derived.Test.YtfeeincglijmjaaTF
import Derived.Test.YtfeeincglijmjaaSE
namespace Go.Proofs.Ytfeeincglijmjaa
open Go.RowKit
set_option linter.unusedVariables false
set_option linter.unusedSimpArgs false
attribute [local go_sem ↓] Go.wp_at_zero Go.wp_at_succ

def dAX : List UInt8 := [2, 1, 1, 0, 0, 0, 0, 2, 0, 0, 0, 1, 0, 1, 64, 120, 0]
def pAX : List UInt8 := [0, 1, 2, 1, 1, 0, 0, 0, 0, 2, 0, 0, 0, 1, 0, 1, 64, 120, 0]
theorem diffAX : dDiff' sA sX = (dAX, 0) := by kernel_rfl
theorem pushAX : dPush [(0, sA)] sX = [(0, sA), (1, sX)] := by kernel_rfl
theorem pushXX : dPush [(0, sA), (1, sX)] sX = [(0, sA), (1, sX)] := by kernel_rfl
theorem makeAX : dMake [(0, sA), (1, sX)] 100 = (0, 1, [pAX], true) := by kernel_rfl
theorem makeA : dMake [(0, sA)] 100 = (0, 0, [], false) := by kernel_rfl
theorem ackedAX : dAcked [(0, sA), (1, sX)] 1 = [(1, sX)] := by kernel_rfl
theorem checkAX : sCheck [(0, sA), (1, sX)] = true := by kernel_rfl
theorem manyAX : rPart pAX = some (0, 1, dAX) := by kernel_rfl
theorem jgoAX : jGo true [pAX] [] 0 = some ([(0, dAX)], 1) := by simp [jGo, manyAX, jPut, List.lookup]
theorem joinAX : jJoin [pAX] = (dAX, 0) := by
  unfold jJoin
  rw [jgoAX]
  kernel_rfl
theorem collectAX : dCollect 0 0 [] 0 1 pAX = ((0, 1, [pAX]), dAX, true) := by
  have hm : dMany pAX = 1 := by unfold dMany; rw [manyAX]
  unfold dCollect dKeep
  rw [hm, if_neg (by simp), if_neg (by simp), show dMore [] pAX = [pAX] from rfl, joinAX]
  rfl
theorem takeAX : dTake [(0, sA)] 0 1 dAX = ([(0, sA), (1, sX)], true) := by
  unfold dTake
  rw [if_pos (by kernel_rfl), if_neg (by rw [show dNone [(0, sA)] 0 1 = false from by kernel_rfl]; decide)]
  show (match ([(0, sA)] : List (Int × Scr))[(sFind 0 [(0, sA)]).toNat]? with | some x => if (dApply x.2 dAX).2 = 0 then (dShort (([(0, sA)] : List (Int × Scr)).drop (sFind 0 [(0, sA)]).toNat ++ [(1, (dApply x.2 dAX).1)]), true) else ([(0, sA)], false) | none => ([(0, sA)], false)) = _
  rw [show (sFind 0 [(0, sA)]).toNat = 0 from by kernel_rfl]
  simp only [List.getElem?_cons_zero, apply_yes diffAX, if_true, List.drop_zero]
  rfl
theorem takeXX : dTake [(0, sA), (1, sX)] 0 1 dAX = ([(0, sA), (1, sX)], false) := by
  unfold dTake
  rw [if_pos (by kernel_rfl), if_pos (by kernel_rfl)]

/-- A row of shown screens that came back. -/
theorem shs_of {w : World} {A : Option Addr} {c n base : Nat} {K : List Shn} (h : w.ownsRow base 39 17 (.slice A K.length c) K.length (shCells K)) (hok : ∀ x ∈ K, Shn.Ok w w.heap.size x) (hn : K.length = n) : Shs w w.heap.size A n c K := by
  subst hn
  exact ⟨(Sl.of_own h).more (Nat.zero_le _) (Nat.le_refl _), hok⟩
theorem klen {K : List Shn} {P : List (Int × Scr)} (h : K.map Shn.p = P) : K.length = P.length := by rw [← h, List.length_map]
theorem prt_new (w : World) (v : Array Value) (hv : v.size = 3) (h1 : v.toList.all (·.oneCell') = true) :
    ∃ W', (Instr.storeAt 31 (.pointer (some ⟨w.heap.size, 0, none⟩)) (.agg v)).run Try.prog (w.alloc (.cells #[.int .i64 0, .int .i64 0, .slice none 0 0] 31)) = .ok () W' ∧ Blk W' w.heap.size 31 v ∧ Below w.heap.size w W' ∧ w.heap.size + 1 ≤ W'.heap.size := by
  obtain ⟨W', h2, h3, h4, h5⟩ := prt_st (Blk.new w 31 #[.int .i64 0, .int .i64 0, .slice none 0 0] rfl) rfl v hv h1
  exact ⟨W', h2, h3, ((Below.refl w.heap.size w).alloc (Nat.le_refl _) _).grown h4 (by simp) (fun k e => by cases e; exact Nat.le_refl _), by rw [h5]; simp⟩

set_option maxHeartbeats 4000000 in
set_option maxRecDepth 100000 in
theorem begin_no {W H : Int} {w : World} (h : (inB W 1 64 && inB H 1 64) = false) :
    Calls Try.prog 13 #[.int .i64 W, .int .i64 H] w (RetBg w [] 170) := by
  have HN := Lib.hid (new_no (w := w) h)
  clear h
  go_enter Try.func13, Try.ntmps13
  go_wp2_with fail
  refine HN.out.mono ?_
  rintro e w1 ⟨C, cc, M, cm, rfl, hat1, b1⟩
  obtain ⟨w2, hst2, kA2, b2, z2⟩ := scr_new w1 noScr C cc M cm
  have bb2 := b1.trans (b2.mono b1.size)
  have F := Lib.hid (show RetBg w [] 170 (.returned (.tuple #[.slice none 0 0, .int .i64 170])) w2 from ⟨none, 0, [], rfl, rfl, World.ownsRow_nil _ _ _ _, (fun x hx => by cases hx), bb2⟩)
  clear hat1 b1 b2 HN bb2
  go_wp2_with (first | ((with_reducible refine wpList_st2 hst2 ?_ ?_); exact ⟨rfl, rfl⟩))
  go_ret2
  exact F.out

set_option maxHeartbeats 16000000 in
set_option maxRecDepth 100000 in
theorem awake12_any (w : World) : Calls Try.prog 12 #[] w fun e w' => e = .returned (.bool true) ∧ Below w.heap.size w w' := by
  have HB := begin_yes (W := 2) (H := 1) (w := w) (by decide) (by rw [newA]; exact ⟨by decide, by decide⟩)
  rw [newA] at HB
  have HB := Lib.hid HB
  go_enter Try.func12, Try.ntmps12
  go_wp2_with fail
  refine HB.out.mono ?_
  rintro e w1 ⟨A1, c1, K1, rfl, hp1, o1, ok1, b1⟩
  have hl1 : K1.length = 1 := klen hp1
  have S1 := shs_of o1 ok1 hl1
  rw [hl1]
  have HN := new_yes (W := 2) (H := 1) (w := w1) (by decide)
  rw [newA] at HN
  have HN := Lib.hid HN
  clear o1 ok1 hl1 HB
  go_wp2_with fail
  refine HN.out.mono ?_
  rintro e w2 ⟨C, cc, M, cm, rfl, hat2, b2⟩
  obtain ⟨w3, hst3, kA3, b3, z3⟩ := scr_new w2 sA C cc M cm
  have q3 := bs16 kA3 rfl
  have z1 := b1.size
  have z2 := b2.size
  have S3 := (S1.below b2 (Nat.le_refl _)).below b3 z2
  have hat3 := hat2.below b3 (Nat.le_refl _)
  have bb3 := (b1.trans (b2.mono z1)).trans (b3.mono (by omega))
  clear S1 b1 b2 b3 hat2 HN
  have HP := Lib.hid (put_x hat3 (by omega))
  go_wp2_with (first | ((with_reducible refine wpList_ld2 q3 ?_ ?_); rfl) | ((with_reducible refine wpList_st2 hst3 ?_ ?_); exact ⟨rfl, rfl⟩))
  refine HP.out.mono ?_
  rintro e w4 ⟨C4, cc4, M4, cm4, rfl, hat4, b4⟩
  have z4 := b4.size
  have kA4 := kA3.later b4
  have hat4a := hat3.below b4 (by omega)
  have S4 := S3.below b4 (by omega)
  have bb4 := bb3.trans (b4.mono (by omega))
  have HPu := push_any S4 (by omega) (by decide) hat4 (Nat.le_refl _) ⟨by decide, by decide⟩
  rw [hp1, pushAX] at HPu
  have HPu := Lib.hid HPu
  clear S3 kA3 hat3 b4 bb3 hat4 HP q3 hst3
  go_wp2_with fail
  refine HPu.out.mono ?_
  rintro e w5 ⟨A5, c5, K5, rfl, hp5, o5, ok5, b5⟩
  have hl5 : K5.length = 2 := klen hp5
  have S5 := shs_of o5 ok5 hl5
  rw [hl5]
  have z5 := b5.size
  have kA5 := kA4.later b5
  have hat5 := hat4a.below b5 (by omega)
  have T5 := S4.below b5 (by omega)
  have bb5 := bb4.trans (b5.mono (by omega))
  have HM := make_any (z := 100) S5 (Nat.le_refl _) (by decide)
  rw [hp5, makeAX] at HM
  have HM := Lib.hid HM
  clear S4 kA4 hat4a b5 bb4 o5 ok5 hl5 HPu
  go_wp2_with fail
  refine HM.out.mono ?_
  rintro e w6 ⟨A6, c6, vs6, rfl, o6, bs6, b6⟩
  simp only [List.length_cons, List.length_nil, Nat.zero_add] at o6 bs6 ⊢
  have z6 := b6.size
  have kA6 := kA5.later b6
  have hat6 := hat5.below b6 (by omega)
  have T6 := T5.below b6 (by omega)
  have S6 := S5.below b6 (by omega)
  have bb6 := bb5.trans (b6.mono (by omega))
  have HM := make_any (z := 100) T6 (by omega) (by decide)
  rw [hp1, makeA] at HM
  have HM := Lib.hid HM
  clear T5 S5 kA5 hat5 b6 bb5
  go_wp2_with fail
  refine HM.out.mono ?_
  rintro e w7 ⟨A7, c7, vs7, rfl, o7, bs7, b7⟩
  simp only [List.length_nil] at o7 bs7 ⊢
  have z7 := b7.size
  have kA7 := kA6.later b7
  have hat7 := hat6.below b7 (by omega)
  have T7 := T6.below b7 (by omega)
  have S7 := S6.below b7 (by omega)
  have bb7 := bb6.trans (b7.mono (by omega))
  have o6a := own_below o6 b7 (Nat.le_refl _)
  have bs6a := bs6.below b7 (Nat.le_refl _)
  have HB := Lib.hid (begin_no (W := 0) (H := 1) (w := w7) (by decide))
  clear T6 S6 kA6 hat6 b7 bb6 o6 bs6 o7 bs7 HM
  go_wp2_with fail
  refine HB.out.mono ?_
  rintro e w8 ⟨A8, c8, K8, rfl, hp8, o8, ok8, b8⟩
  have hl8 : K8.length = 0 := klen hp8
  rw [hl8]
  have z8 := b8.size
  have kA8 := kA7.later b8
  have hat8 := hat7.below b8 (by omega)
  have T8 := T7.below b8 (by omega)
  have S8 := S7.below b8 (by omega)
  have bb8 := bb7.trans (b8.mono (by omega))
  have o6 := own_below o6a b8 (Nat.le_refl _)
  have bs6 := bs6a.below b8 (Nat.le_refl _)
  clear T7 S7 kA7 hat7 b8 bb7 o6a bs6a o8 ok8 hl8 hp8 HB
  obtain ⟨v6, hv6⟩ : ∃ v, vs6 = [v] := List.length_eq_one_iff.1 bs6.1
  subst hv6
  obtain ⟨P6, cp6, rfl, ho6⟩ := bs6.2 0 _ _ rfl rfl
  obtain ⟨g6, hA6, hgb6, hgl6, -, hgf6, -⟩ := own_set1 o6 (p := 0) (by decide) (.int .i64 0)
  subst hA6
  have k6 : w8.cell? ⟨g6, 0, none⟩ = some (.slice P6 pAX.length cp6) := o6.cells (g := g6) rfl 0 _ rfl
  have ag := addr_add g6 0 0
  have HC := collect_any (B0 := 0) (N0 := 0) (b1 := 0) (n1 := 1) (Sl.empty w8 0 0 1) (Nat.zero_le _) (lo := 0) (up := 0) (ps := []) ⟨rfl, fun i v p h => by cases h⟩ (Nat.zero_le _) (Sl.of_own ho6) (Nat.le_refl _) (by decide) (by decide) (by decide)
  rw [collectAX] at HC
  have HC := Lib.hid HC
  have hpl : pAX.length = 19 := rfl
  rw [hpl] at k6 HC
  have hdl : dAX.length = 17 := rfl
  clear o6 bs6 ho6 hgf6
  go_wp2_with fail
  refine HC.out.mono ?_
  rintro e w9 ⟨A9, c9, vs9, D9, cd9, rfl, o9, bs9, od9, b9⟩
  simp only [List.length_cons, List.length_nil, Nat.zero_add] at o9 bs9 od9 ⊢
  obtain ⟨w10, hst10, kQ10, b10, z10⟩ := prt_new w9 #[.int .i64 0, .int .i64 1, .slice A9 1 c9] rfl rfl
  have z9 := b9.size
  have kA10 := (kA8.later b9).later b10
  have hat10 := (hat8.below b9 (by omega)).below b10 (by omega)
  have T10 := (T8.below b9 (by omega)).below b10 (by omega)
  have S10 := (S8.below b9 (by omega)).below b10 (by omega)
  have bb10 := (bb8.trans (b9.mono (by omega))).trans (b10.mono (by omega))
  have od10 := (Sl.of_own od9).below b10 (Nat.le_refl _)
  have HT := take_any (z := 0) (k := 1) T10 (by omega) (by decide) od10 (by omega) (by decide)
  rw [hp1, takeAX] at HT
  have HT := Lib.hid HT
  clear T8 S8 kA8 hat8 b9 b10 bb8 o9 bs9 od9 HC
  rw [hdl] at od10 HT ⊢
  go_wp2_with (first | ((with_reducible refine wpList_stp hst10 ?_ ?_); exact ⟨rfl, rfl⟩))
  refine HT.out.mono ?_
  rintro e w11 ⟨A11, c11, K11, rfl, hp11, o11, ok11, b11⟩
  have hl11 : K11.length = 2 := klen hp11
  have N11 := shs_of o11 ok11 hl11
  rw [hl11]
  simp only
  have z11 := b11.size
  have kA11 := kA10.later b11
  have kQ11 := kQ10.later b11
  have hat11 := hat10.below b11 (by omega)
  have S11 := S10.below b11 (by omega)
  have od11 := od10.below b11 (by omega)
  have bb11 := bb10.trans (b11.mono (by omega))
  have HT := take_any (z := 0) (k := 1) N11 (Nat.le_refl _) (by decide) (d := dAX) od11 (by omega) (by decide)
  rw [hp11, takeXX] at HT
  rw [hdl] at HT
  have HT := Lib.hid HT
  clear T10 S10 kA10 kQ10 hat10 b11 bb10 o11 ok11 hl11 od10 hst10
  go_wp2_with fail
  refine HT.out.mono ?_
  rintro e w12 ⟨A12, c12, K12, rfl, hp12, o12, ok12, b12⟩
  have hl12 : K12.length = 2 := klen hp12
  rw [hl12]
  simp only
  have z12 := b12.size
  have kA12 := kA11.later b12
  have kQ12 := kQ11.later b12
  have hat12 := hat11.below b12 (by omega)
  have S12 := S11.below b12 (by omega)
  have N12 := N11.below b12 (by omega)
  have bb12 := bb11.trans (b12.mono (by omega))
  have HS := Lib.hid (rsame_yes S12 (by omega) N12 (by omega) (by decide) (hp5.trans hp11.symm))
  clear S11 kA11 kQ11 hat11 b12 bb11 o12 ok12 hl12 od11 N11 hp12 HT
  go_wp2_with fail
  refine HS.out.mono ?_
  rintro e w13 ⟨rfl, b13⟩
  have z13 := b13.size
  have kA13 := kA12.later b13
  have kQ13 := kQ12.later b13
  have hat13 := hat12.below b13 (by omega)
  have S13 := S12.below b13 (by omega)
  have bb13 := bb12.trans (b13.mono (by omega))
  have kQc : w13.cell? ⟨w9.heap.size, 2, none⟩ = some (.slice A9 1 c9) := kQ13.rules.1 2
  have aq := addr_add w9.heap.size 0 2
  have HK := scheck_any S13 (by omega) (by decide)
  rw [hp5, checkAX] at HK
  have HK := Lib.hid HK
  clear S12 kA12 kQ12 hat12 b13 bb12 HS N12 kQ13
  go_wp2_with fail
  refine HK.out.mono ?_
  rintro e w14 ⟨rfl, b14⟩
  have z14 := b14.size
  have kA14 := kA13.later b14
  have hat14 := hat13.below b14 (by omega)
  have S14 := S13.below b14 (by omega)
  have bb14 := bb13.trans (b14.mono (by omega))
  have HK := scheck_any (Shs.empty w14 0) (Nat.zero_le _) (by decide)
  rw [show sCheck (([] : List Shn).map Shn.p) = false from rfl] at HK
  have HK := Lib.hid HK
  clear S13 kA13 hat13 b14 bb13 kQc
  go_wp2_with fail
  refine HK.out.mono ?_
  rintro e w15 ⟨rfl, b15⟩
  have z15 := b15.size
  have kA15 := kA14.later b15
  have hat15 := hat14.below b15 (by omega)
  have S15 := S14.below b15 (by omega)
  have bb15 := bb14.trans (b15.mono (by omega))
  have HA := acked_any (z := 1) S15 (by omega) (by decide)
  rw [hp5, ackedAX] at HA
  have HA := Lib.hid HA
  clear S14 kA14 hat14 b15 bb14 HK
  go_wp2_with fail
  refine HA.out.mono ?_
  rintro e w16 ⟨A16, c16, K16, rfl, hp16, o16, ok16, b16⟩
  have hl16 : K16.length = 1 := klen hp16
  rw [hl16]
  have z16 := b16.size
  have kA16 := kA15.later b16
  have hat16 := hat15.below b16 (by omega)
  have S16 := S15.below b16 (by omega)
  have bb16 := bb15.trans (b16.mono (by omega))
  have HP := Lib.hid (put_x hat16 (by omega))
  have ⟨kc, kf⟩ := kA16.rules
  clear S15 kA15 hat15 b16 bb15 HA o16 ok16 hp16 hl16
  rw [sA_v] at HP kc
  go_wp2_with fail
  refine HP.out.mono ?_
  rintro e w17 ⟨C17, cc17, M17, cm17, rfl, hat17, b17⟩
  have z17 := b17.size
  have S17 := S16.below b17 (by omega)
  have bb17 := bb16.trans (b17.mono (by omega))
  have HPu := push_any S17 (by omega) (by decide) hat17 (Nat.le_refl _) ⟨by decide, by decide⟩
  rw [hp5, pushXX] at HPu
  have HPu := Lib.hid HPu
  clear S16 kA16 hat16 b17 bb16 HP kc kf hat17
  go_wp2_with fail
  refine HPu.out.mono ?_
  rintro e w18 ⟨A18, c18, K18, rfl, hp18, o18, ok18, b18⟩
  have hl18 : K18.length = 2 := klen hp18
  rw [hl18]
  have bb18 := bb17.trans (b18.mono (by omega))
  clear o18 ok18 hp18 b18 bb17 HPu S17
  go_wp2_with fail
  go_ret
  exact ⟨rfl, bb18⟩
end Go.Proofs.Ytfeeincglijmjaa
