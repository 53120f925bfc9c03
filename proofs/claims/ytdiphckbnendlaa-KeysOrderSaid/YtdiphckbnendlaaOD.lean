/- The walk of KeysOrder. -/
import Derived.Test.YtdiphckbnendlaaOC
import Derived.Deep.LoopGhost
import Derived.Deep.DeepCutAuto
import Derived.Deep.QuietTactic
import Derived.RegionTactic
import Derived.Outline
import Derived.IntWalk
import Derived.Deep.CutBlock
namespace Go.Proofs.Ytdiphckbnendlaa
open Go.RowKit
set_option linter.unusedVariables false
set_option linter.unusedSimpArgs false
attribute [local go_sem ↓] Go.wp_at_zero Go.wp_at_succ

/-- Numbers of steps that are Go's; their bytes lie where they lie. -/
def sWf (w : World) (l : List St) : Prop := ∀ p ∈ l, (-9223372036854775808 ≤ p.k ∧ p.k ≤ 9223372036854775807) ∧ (0 ≤ p.a ∧ p.a ≤ 255) ∧ (0 ≤ p.b ∧ p.b ≤ 255) ∧ p.d.length ≤ 9223372036854775807 ∧ Sl w 0 w.heap.size 1 p.D p.d.length p.c (byteCells p.d)

theorem bytes_plus (a b : List UInt8) : (⟨a.toArray⟩ : ByteArray) ++ ⟨b.toArray⟩ = ⟨(a ++ b).toArray⟩ := by
  apply ByteArray.ext
  rw [ByteArray.data_append]
  simp
theorem cut_to {P : Program} {T : TypeId} (S : List UInt8) (n : Nat) (hn : n ≤ S.length) (ht : P.underlying T = some .string) (w : World) :
    (Instr.slice T (.string ⟨S.toArray⟩) none (some (.int .i64 n)) none).run P w = .ok (.string ⟨(S.take n).toArray⟩) w := by
  have hs : (⟨S.toArray⟩ : ByteArray).size = S.length := by simp [ByteArray.size]
  rw [run_slice_string_to_if (P := P) (w := w) T _ .i64 n ht, if_pos (by omega)]
  congr 2
  apply ByteArray.ext
  simp
theorem cut_from {P : Program} {T : TypeId} (S : List UInt8) (n : Nat) (hn : n ≤ S.length) (ht : P.underlying T = some .string) (w : World) :
    (Instr.slice T (.string ⟨S.toArray⟩) (some (.int .i64 n)) none none).run P w = .ok (.string ⟨(S.drop n).toArray⟩) w := by
  have hs : (⟨S.toArray⟩ : ByteArray).size = S.length := by simp [ByteArray.size]
  rw [run_slice_string_from_if (P := P) (w := w) T _ .i64 n ht, if_pos (by omega)]
  congr 2
  apply ByteArray.ext
  simp [hs, List.take_of_length_le]
set_option maxHeartbeats 8000000 in
set_option maxRecDepth 100000 in
theorem order_any {A : Option Addr} {n c : Nat} {L : List St} {w : World} (hr : Sl w 0 w.heap.size 4 A n c (stCells L)) (hn : n ≤ 9223372036854775807) (hl : sWf w L) : Calls Try.prog 5 #[.slice A n c] w fun e w' => e = .returned (.bool true) ∧ Below w.heap.size w w' := by
  obtain ⟨i0, hi0, hz0, hz1, hz2⟩ := info_parts info40
  have hlen : n = L.length := by have := hr.len; rw [stCells_length] at this; omega
  subst hlen
  have HR := Lib.hid hr
  have HL := Lib.hid hl
  clear hr hl
  go_enter Try.func5, Try.ntmps5
  go_wp2_with fail
  refine (awake_any _).mono ?_
  rintro e w1 ⟨rfl, bb⟩
  have z1 := bb.size
  go_wp2_with fail
  have b0 : Blk (w1.alloc (.cells #[.int .i64 0, .slice none 0 0] 24)) w1.heap.size 24 #[.int .i64 0, .slice none 0 0] := Blk.new w1 24 _ rfl
  have m0 : Mem (w1.alloc (.cells #[.int .i64 0, .slice none 0 0] 24)) w1.heap.size [] 0 none 0 [] none 0 := ⟨b0, ⟨0, 0, Sl.empty _ _ _ _, Nat.zero_le _, .inl (Nat.zero_le _), fun g e => by cases e⟩, World.ownsRow_nil _ _ _ _, fun e he => by cases he⟩
  have bb0 := bb.alloc z1 (.cells #[.int .i64 0, .slice none 0 0] 24)
  have M0 := Lib.hid m0
  clear m0 b0
  go_loopg [5, 6, 7, 8, 9] L.length (fun gh s5 s6 s7 s8 s9 wr => ∃ (i : Nat) (S : List UInt8) (nx f : Nat) (T : Option Addr) (ct : Nat) (late : List St) (LA : Option Addr) (cl : Nat), gh = L.length - i ∧ i ≤ L.length ∧ i ≤ 100 ∧ s5 = .int .i64 nx ∧ s6 = .string ⟨S.toArray⟩ ∧ s7 = .string ⟨(S.take nx).toArray⟩ ∧ s8 = .slice LA late.length cl ∧ s9 = .int .i64 i ∧
    S.length ≤ 100 * i ∧ nx ≤ S.length ∧ f ≤ nx ∧ S.length - f ≤ 64 ∧ late.length ≤ i ∧ Below w.heap.size w wr ∧ Hid (Mem wr w1.heap.size S f T ct late LA cl))
  case atStart => exact ⟨0, [], 0, 0, none, 0, [], none, 0, by omega, by omega, by omega, rfl, rfl, rfl, rfl, rfl, by simp, by simp, by omega, by simp, by simp, bb0, M0⟩
  case round =>
    obtain ⟨i, S, nx, f, T, ct, late, LA, cl, hg, hi, hi1, rfl, rfl, rfl, rfl, rfl, hS, hnx, hf, hT, hlt, bb, hM⟩ := hrel
    clear M0 bb0
    have HG := Lib.hid hg
    clear hg
    by_cases h : i < L.length ∧ i < 100
    · obtain ⟨h, h100⟩ := h
      obtain ⟨g, o, rfl, hgu, hc⟩ := slt_cell (HR.out.below bb (Nat.le_refl _)) (by omega)
      obtain ⟨k1, k2, k3, k4⟩ := hc i h
      have a1 := addr_add g o (i * 4)
      obtain ⟨hk, ha, hb, hd, hsd⟩ := HL.out L[i] (List.getElem_mem h)
      have HSD := Lib.hid (hsd.below bb (Nat.le_refl _))
      clear hc hsd
      generalize L[i] = p at *
      obtain ⟨k, d, D, c0, a, b⟩ := p
      simp only at *
      have ⟨ka, kb⟩ := hM.out.1.rules
      have z2 := hM.out.lt
      by_cases hd1 : 100 < d.length
      · go_wp2_with fail
        go_ret
        exact ⟨rfl, bb.alloc bb.size _⟩
      · go_upto_region 14 with fail
        have hM1 := hM.out.alloc (.cells #[.int .i64 k, .slice D d.length c0, .int .u8 a, .int .u8 b] 40)
        have bs1 : Blk (wr.alloc (.cells #[.int .i64 k, .slice D d.length c0, .int .u8 a, .int .u8 b] 40)) wr.heap.size 40 #[.int .i64 k, .slice D d.length c0, .int .u8 a, .int .u8 b] := Blk.new wr 40 _ rfl
        obtain ⟨lo1, up1, sT, uT⟩ := hM1.2.1.sl
        have hP := part_any (f := f) (m := f + a % 70) (t := b % 40) sT uT (by omega)
        have hpt := part_typed (S := S) (f := f) (m := f + a % 70) (t := b % 40) (by omega) hT (by omega)
        obtain ⟨r, hr⟩ : ∃ r, r = kPart f (S.drop f) (f + a % 70) (b % 40) := ⟨_, rfl⟩
        rw [← hr] at hP hpt
        clear hr
        obtain ⟨at_, pb, ok⟩ := r
        simp only at hP hpt
        have HPT := Lib.hid hpt
        have bb1 := bb.alloc bb.size (.cells #[.int .i64 k, .slice D d.length c0, .int .u8 a, .int .u8 b] 40)
        refine hP.mono ?_
        rintro e w3 ⟨PD, pc, rfl, sP, hb3⟩
        have hM3 := Lib.hid (hM1.below hb3)
        have HS3 := Lib.hid ((HSD.out.alloc bb.size (.cells #[.int .i64 k, .slice D d.length c0, .int .u8 a, .int .u8 b] 40)).below hb3 (by have := bb.size; simp; omega))
        have bs := bs1.later hb3
        have LP : Hid (Lies w3 w1.heap.size (Value.ownBlock (.slice LA late.length cl)) PD pb.length pc pb) := Lib.hid (Lies.fresh sP (Nat.le_refl _) hM1.lt hM1.row)
        have bb := bb1.trans (hb3.mono bb1.size)
        have z3 := hb3.size
        rw [World.size_alloc] at z3
        clear hP hpt sT uT hM hM1 bs1 bb1 sP hb3 ka kb k1 k2 k3 k4 a1 HSD
        have ⟨ks, fs⟩ := bs.rules
        have ⟨ka, kb⟩ := hM3.out.1.rules
        go_upto_block 2 with fail
        go_cut [5, 6, 7, 8] (fun s5 s6 s7 s8 wx => ∃ (S' : List UInt8) (nx' f' : Nat) (T' : Option Addr) (ct' : Nat) (late' : List St) (LA' : Option Addr) (cl' : Nat), s5 = .int .i64 nx' ∧ s6 = .string ⟨S'.toArray⟩ ∧ s7 = .string ⟨(S'.take nx').toArray⟩ ∧ s8 = .slice LA' late'.length cl' ∧
          S'.length ≤ 100 * (i + 1) ∧ nx' ≤ S'.length ∧ f' ≤ nx' ∧ S'.length - f' ≤ 64 ∧ late'.length ≤ i + 1 ∧ Below w.heap.size w wx ∧ Hid (Mem wx w1.heap.size S' f' T' ct' late' LA' cl'))
        case first =>
          have ⟨ks, fs⟩ := bs.rules
          have ⟨ka, kb⟩ := hM3.out.1.rules
          obtain ⟨lo1, up1, sT, uT⟩ := hM3.out.2.1.sl
          have z4 := hM3.out.lt
          by_cases e0 : k = 0
          · subst e0
            as_aux_lemma =>
              have hTy := type_any (f := f) sT uT HS3.out (by omega) (by omega)
              rw [type_typed (by omega) hT (by omega)] at hTy
              by_cases hfit : S.length - f + d.length ≤ 64
              · rw [if_pos hfit] at hTy
                obtain ⟨SD, hSD⟩ : ∃ SD, SD = S ++ d := ⟨_, rfl⟩
                have hl1 : SD.length ≤ S.length + d.length := by rw [hSD, List.length_append]; omega
                have hl2 : S.length + d.length ≤ SD.length := by rw [hSD, List.length_append]; omega
                have hadd := bytes_plus S d
                rw [← hSD] at hTy hadd
                have HSD := Lib.hid hSD
                clear hSD
                have eL : (SD.drop f).length = SD.length - f := List.length_drop
                unfold RetTE at hTy
                simp only [eL] at hTy
                clear eL
                have hfi : (((S.length - f : Nat) : Int) + (d.length : Int) ≤ 64) := by omega
                go_wp2_with fail
                refine hTy.mono ?_
                rintro e w4 ⟨U, cu, rfl, hU, hb4⟩
                have z5 := hb4.size
                have hM4 := hM3.out.below hb4
                have LU : Lies w4 w1.heap.size (Value.ownBlock (.slice LA late.length cl)) U (SD.length - f) cu (SD.drop f) := Lies.fresh (Sl.of_own hU) (Nat.le_refl _) hM3.out.lt hM3.out.row
                have hs4 := (HS3.out.below hb4 (by omega)).alloc (by omega) (.cells #[.int .i64 f, .slice U (SD.length - f) cu] 24)
                have q4 := run_string_of (dst := 9) hs4 Try.underlying22 Try.underlying5 Try.underlying9
                have bb4 := bb.trans (hb4.mono bb.size)
                have bs4 := bs.later hb4
                have bu4 := Blk.new w4 24 #[.int .i64 f, .slice U (SD.length - f) cu] rfl
                clear hU hb4 hs4 hTy ks fs ka kb
                have ⟨ks, fs⟩ := bs4.rules
                have ⟨ka, kb⟩ := hM4.1.rules
                have ⟨ku, ku2⟩ := bu4.rules
                have zz1 : w1.heap.size < w4.heap.size := by omega
                have zz2 : wr.heap.size < w4.heap.size := by omega
                have HM4 := Lib.hid hM4
                have HLU := Lib.hid LU
                clear hM4 LU
                go_wp2_with fail
                go_meet
                exact ⟨SD, nx, f, U, cu, late, LA, cl, rfl, rfl, by rw [HSD.out, List.take_append_of_le_length hnx], rfl, by omega, by omega, hf, by omega, by omega, ((bb4.setCell (p := ⟨w1.heap.size, 0, none⟩) (by simp; omega) _).setCell (p := ⟨w1.heap.size, 1, none⟩) (by simp; omega) _).alloc (by simp; omega) _, Lib.hid ((HM4.out.put (fun k e h => HSD.out ▸ h.more d) HLU.out).alloc _)⟩
              · rw [if_neg hfit] at hTy
                have eL : (S.drop f).length = S.length - f := List.length_drop
                unfold RetTE at hTy
                simp only [eL] at hTy
                clear eL
                have hfi : ¬ (((S.length - f : Nat) : Int) + (d.length : Int) ≤ 64) := by omega
                go_wp2_with fail
                refine hTy.mono ?_
                rintro e w4 ⟨U, cu, rfl, hU, hb4⟩
                have z5 := hb4.size
                have hM4 := hM3.out.below hb4
                have LU : Lies w4 w1.heap.size (Value.ownBlock (.slice LA late.length cl)) U (S.length - f) cu (S.drop f) := Lies.fresh (Sl.of_own hU) (Nat.le_refl _) hM3.out.lt hM3.out.row
                have bb4 := bb.trans (hb4.mono bb.size)
                have bs4 := bs.later hb4
                have bu4 := Blk.new w4 24 #[.int .i64 f, .slice U (S.length - f) cu] rfl
                clear hU hb4 hTy ks fs ka kb
                have ⟨ks, fs⟩ := bs4.rules
                have ⟨ka, kb⟩ := hM4.1.rules
                have ⟨ku, ku2⟩ := bu4.rules
                have zz1 : w1.heap.size < w4.heap.size := by omega
                have zz2 : wr.heap.size < w4.heap.size := by omega
                have HM4 := Lib.hid hM4
                have HLU := Lib.hid LU
                clear hM4 LU
                go_wp2_with fail
                go_meet
                exact ⟨S, nx, f, U, cu, late, LA, cl, rfl, rfl, rfl, rfl, by omega, by omega, hf, by omega, by omega, ((bb4.setCell (p := ⟨w1.heap.size, 0, none⟩) (by simp; omega) _).setCell (p := ⟨w1.heap.size, 1, none⟩) (by simp; omega) _).alloc (by simp; omega) _, Lib.hid ((HM4.out.put (fun k e h => h) HLU.out).alloc _)⟩
          have g0 : ((k == 0) : Bool) = false := by simpa using e0
          clear e0
          by_cases e1 : k = 1
          · subst e1
            as_aux_lemma =>
              cases ok
              · go_wp2_with fail
                go_meet
                exact ⟨S, nx, f, T, ct, late, LA, cl, rfl, rfl, rfl, rfl, by omega, hnx, hf, hT, by omega, bb, hM3⟩
              · have hp : isPart S at_ pb := by
                  rcases HPT.out with ⟨_, h⟩ | h
                  · exact h
                  · injection h with _ h; injection h with _ h; cases h
                obtain ⟨lo4, up4, sP, uP⟩ := LP.out.sl
                obtain ⟨nx', hx1, hx2, hx3, hx4, hx5⟩ := take_typed hnx (by omega) hp
                have hTk := take_any (t := nx) (g := at_) sP uP (by obtain ⟨_, _, _, _, _, h⟩ := hp; omega)
                have hadd := bytes_plus (S.take nx) (kTake nx at_ pb).2
                rw [hx4] at hadd
                rw [hx3] at hTk
                generalize (kTake nx at_ pb).2 = X at hTk hadd hx5
                clear hx3 hx4
                have HAdd := Lib.hid hadd
                clear hadd
                go_wp2_with fail
                refine hTk.mono ?_
                rintro e w4 ⟨U, cu, rfl, hU, hb4⟩
                have z5 := hb4.size
                have hM4 := Lib.hid (hM3.out.below hb4)
                have bb4 := bb.trans (hb4.mono bb.size)
                have q4 := run_string_of (dst := 9) (Sl.of_own hU) Try.underlying22 Try.underlying5 Try.underlying9
                have hadd := HAdd.out
                clear hU hb4 hTk ks fs ka kb
                go_wp2_with fail
                go_meet
                exact ⟨S, nx', f, T, ct, late, LA, cl, rfl, rfl, rfl, rfl, by omega, hx2, by omega, hT, by omega, bb4, hM4⟩
          have g1 : ((k == 1) : Bool) = false := by simpa using e1
          clear e1
          by_cases e3 : k = 3
          · subst e3
            as_aux_lemma =>
              cases ok
              · go_wp2_with fail
                go_meet
                exact ⟨S, nx, f, T, ct, late, LA, cl, rfl, rfl, rfl, rfl, by omega, hnx, hf, hT, by omega, bb, hM3⟩
              · have hp : isPart S at_ pb := by
                  rcases HPT.out with ⟨_, h⟩ | h
                  · exact h
                  · injection h with _ h; injection h with _ h; cases h
                have HP := Lib.hid hp
                clear hp
                have zb := bb.size
                have HO := Lib.hid hM3.out.2.2.1
                have hq1 : w1.heap.size + 1 ≤ w3.heap.size := by omega
                go_wp2_with (at_builtin; refine wpList_append_sl2 _ rfl (.tmp 107) (.tmp 111) _ rfl (w1.heap.size + 1) 40 i0 _ 4 40 Try.underlying38 hi0 hz0 hz1 hz2 rfl (by omega) (.slice LA late.length cl) late.length _ rfl (own_alloc HO.out _) w3.heap.size (w3.heap.size + 1) _ 1 1 _ rfl (Sl.new w3 40 #[.int .i64 at_, .slice PD pb.length pc, .int .u8 0, .int .u8 0] 4 1 1 (stCells [⟨at_, pb, PD, pc, 0, 0⟩]) rfl (by omega) rfl rfl) (stCells_one _) (late.length + 1) rfl _ (stCells_append _ [⟨at_, pb, PD, pc, 0, 0⟩]).symm (by unfold maxLen; omega) (by omega) (by simp; omega) ?_; intro A' c' w5 hown5 hg5 hbl5)
                go_meet
                exact ⟨S, nx, f, T, ct, late ++ [⟨at_, pb, PD, pc, 0, 0⟩], A', c', rfl, rfl, rfl, by rw [List.length_append]; rfl, by omega, hnx, hf, hT, by rw [List.length_append]; simp; omega, (bb.alloc (by omega) _).grown hg5 (by simp; omega) (fun k hk => by have := (HO.out.lt k hk).1; omega), Lib.hid ((hM3.out.alloc _).grow (e := ⟨at_, pb, PD, pc, 0, 0⟩) HP.out (LP.out.alloc _) hown5 hg5 hbl5)⟩
          have g3 : ((k == 3) : Bool) = false := by simpa using e3
          clear e3
          by_cases e4 : k = 4
          · subst e4
            as_aux_lemma =>
              by_cases h0 : 0 < late.length
              · obtain ⟨j, hj, hjl⟩ : ∃ j : Nat, a % (late.length : Int) = j ∧ j < late.length := by
                  have h1 := Int.emod_nonneg a (b := (late.length : Int)) (by omega)
                  have h2 := Int.emod_lt_of_pos a (b := (late.length : Int)) (by omega)
                  exact ⟨(a % (late.length : Int)).toNat, by omega, by omega⟩
                obtain ⟨gl, ol, hLA, hgl, hcl⟩ := slt_cell (Sl.of_own hM3.out.2.2.1) h0
                obtain ⟨r1, r2, r3, r4⟩ := hcl j hjl
                have hqm := hM3.out.2.2.2 late[j] (List.getElem_mem hjl)
                have a2 := addr_add gl ol (j * 4)
                have hz : ((late.length : Int) == 0) = false := by simpa using (by omega : ¬ (late.length : Int) = 0)
                have HLA := Lib.hid hLA
                clear hcl
                generalize late[j] = q at *
                obtain ⟨qk, qd, qD, qc, qa, qb⟩ := q
                simp only at r1 r2 r3 r4 hqm
                obtain ⟨hp, hL⟩ := hqm
                have hL1 := hL.alloc (.cells #[.int .i64 qk, .slice qD qd.length qc, .int .u8 qa, .int .u8 qb] 40)
                obtain ⟨lo4, up4, sP, uP⟩ := hL1.sl
                obtain ⟨nx', hx1, hx2, hx3, hx4, hx5⟩ := take_typed hnx (by omega) hp
                have hTk := take_any (t := nx) (g := qk) sP uP (by obtain ⟨_, _, _, _, _, h⟩ := hp; omega)
                have hadd := bytes_plus (S.take nx) (kTake nx qk qd).2
                rw [hx4] at hadd
                rw [hx3] at hTk
                generalize (kTake nx qk qd).2 = X at hTk hadd hx5
                have hM4 := hM3.out.alloc (.cells #[.int .i64 qk, .slice qD qd.length qc, .int .u8 qa, .int .u8 qb] 40)
                have bb4 := bb.alloc bb.size (.cells #[.int .i64 qk, .slice qD qd.length qc, .int .u8 qa, .int .u8 qb] 40)
                have HAdd := Lib.hid hadd
                have HM4 := Lib.hid hM4
                clear hx3 hx4 hadd hL hL1 sP hp hM4 hLA
                rw [HLA.out]
                go_wp2_with fail
                refine hTk.mono ?_
                rintro e w4 ⟨U, cu, rfl, hU, hb4⟩
                have z5 := hb4.size
                have hM5 := Lib.hid (HM4.out.below hb4)
                have bb5 := bb4.trans (hb4.mono bb4.size)
                have q4 := run_string_of (dst := 9) (Sl.of_own hU) Try.underlying22 Try.underlying5 Try.underlying9
                have hadd := HAdd.out
                clear hU hb4 hTk ks fs ka kb
                go_wp2_with fail
                go_meet
                exact ⟨S, nx', f, T, ct, late, LA, cl, rfl, rfl, rfl, by rw [HLA.out], by omega, hx2, by omega, hT, by omega, bb5, hM5⟩
              · go_wp2_with fail
                go_meet
                exact ⟨S, nx, f, T, ct, late, LA, cl, rfl, rfl, rfl, rfl, by omega, hnx, hf, hT, by omega, bb, hM3⟩
          have g4 : ((k == 4) : Bool) = false := by simpa using e4
          clear e4
          by_cases e5 : k = 5
          · subst e5
            as_aux_lemma =>
              have hA := acked_any (f := f) (m := nx) sT uT
              rw [acked_typed hf hnx hT (by omega)] at hA
              have eL : (S.drop nx).length = S.length - nx := List.length_drop
              unfold RetTs at hA
              simp only [eL] at hA
              clear eL
              go_wp2_with fail
              refine hA.mono ?_
              rintro e w4 ⟨U, cu, rfl, hU, hb4⟩
              have z5 := hb4.size
              have hM4 := hM3.out.below hb4
              have LU : Lies w4 w1.heap.size (Value.ownBlock (.slice LA late.length cl)) U (S.length - nx) cu (S.drop nx) := Lies.fresh hU (Nat.le_refl _) hM3.out.lt hM3.out.row
              have bb4 := bb.trans (hb4.mono bb.size)
              clear hU hb4 hA ks fs ka kb
              have ⟨ka, kb⟩ := hM4.1.rules
              have zz1 : w1.heap.size < w4.heap.size := by omega
              have HM4 := Lib.hid hM4
              have HLU := Lib.hid LU
              clear hM4 LU
              go_wp2_with fail
              go_meet
              exact ⟨S, nx, nx, U, cu, late, LA, cl, rfl, rfl, rfl, rfl, by omega, by omega, Nat.le_refl _, by omega, by omega, (bb4.setCell (p := ⟨w1.heap.size, 0, none⟩) (by simp; omega) _).setCell (p := ⟨w1.heap.size, 1, none⟩) (by simp; omega) _, Lib.hid (HM4.out.put (fun k e h => h) HLU.out)⟩
          have g5 : ((k == 5) : Bool) = false := by simpa using e5
          clear e5
          go_wp2_with fail
          go_meet
          exact ⟨S, nx, f, T, ct, late, LA, cl, rfl, rfl, rfl, rfl, by omega, hnx, hf, hT, by omega, bb, hM3⟩
        case rest =>
          as_aux_lemma =>
            obtain ⟨S', nx', f', T', ct', late', LA', cl', rfl, rfl, rfl, rfl, hS', hnx', hf', hT', hlt', bb, hM'⟩ := hcut
            clear hM3 HS3 bs LP ks fs ka kb z3 z2 HPT HL HR hd ha hb hk
            have ⟨ka, kb⟩ := hM'.out.1.rules
            obtain ⟨lo1, up1, sT, uT⟩ := hM'.out.2.1.sl
            have q1 := run_string_of (dst := 9) sT Try.underlying22 Try.underlying5 Try.underlying9
            have q1' := fun k => run_string_of (dst := 9) (sT.drewN k) Try.underlying22 Try.underlying5 Try.underlying9
            have q2 := cut_to (P := Try.prog) (T := 9) S' nx' hnx' Try.underlying9
            have q3 := cut_from (P := Try.prog) (T := 9) S' f' (by omega) Try.underlying9
            obtain ⟨C, hC⟩ : ∃ C, C = S'.take nx' := ⟨_, rfl⟩
            obtain ⟨R, hR⟩ : ∃ R, R = S'.drop f' := ⟨_, rfl⟩
            have hCl : C.length = nx' := by rw [hC, List.length_take]; omega
            have hsum : ((f' : Int) + ((S'.length - f' : Nat) : Int)) = (S'.length : Int) := by omega
            have d1 : decide (S'.length < nx') = false := by rw [decide_eq_false_iff_not]; omega
            have d2 : ((f' : Int) < 0) = False := eq_false (by omega)
            have d3 : decide (nx' < f') = false := by rw [decide_eq_false_iff_not]; omega
            have d4 : IntKind.i64.wrap (S'.length : Int) = (S'.length : Int) := IntWalk.i64_in _ (by omega)
            rw [← hC] at q2
            rw [← hR] at q1 q3
            simp only [← hR] at q1'
            rw [← hC]
            have HC := Lib.hid hC
            clear hC sT hR
            go_upto_region 38 with fail
            go_quiet (skip)
            go_wp2_with fail
            go_roundg (L.length - (i + 1))
            case measure => have := HG.out; omega
            case rel => exact ⟨i + 1, S', nx', f', T', ct', late', LA', cl', rfl, by omega, by omega, rfl, rfl, by rw [HC.out], rfl, by go_num, by omega, hnx', hf', hT', by omega, below_drewN bb _, Lib.hid (hM'.out.below (below_drewN (Below.refl _ _) _))⟩
    · by_cases h1 : i < L.length
      · have h2 : i = 100 := by omega
        subst h2
        go_wp2_with fail
        go_ret
        exact ⟨rfl, bb⟩
      · go_wp2_with fail
        go_ret
        exact ⟨rfl, bb⟩
end Go.Proofs.Ytdiphckbnendlaa
