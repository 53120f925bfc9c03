/- The iterator over rows of places that are not as others, its contract. -/
import Derived.Test.YtfeeincglijmjaaDA
import Derived.Test.YtfeeincglijmjaaGA
import Derived.RangeFuncNested
import Derived.RangeFuncBound
import Derived.RangeFuncCalls
import Derived.RangeFuncLeaves
import Derived.RangeFuncBox
import Derived.Shelf.Abstract
import Derived.Shelf.RegionOpen
import Derived.WalkKit
import Derived.OwnWalkIn
import Derived.TacticsInMore
import Derived.LoopNIn
import Derived.LoopIn
import Derived.Sort.QuietIn
import Derived.Sort.LoopGhostIn
namespace Go.Proofs.Ytfeeincglijmjaa
open Go.RowKit
set_option linter.unusedVariables false
set_option linter.unusedSimpArgs false
attribute [local go_sem] Oper.semAt_some

/-- A row of those, with the word that it is one. -/
abbrev In (M : List Rw) := { r : Rw // r ∈ M }
/-- A row as a value, where the places lie. -/
def rwV (b o : Nat) (r : Rw) : Value := .agg #[.int .i64 r.s, .slice (some ⟨b, o + r.a * 2, none⟩) r.l.length r.l.length]
/-- What a round leaves: blocks ahead, and the two boxes. -/
def Kpt (n₀ Bf Bt : Nat) (W W' : World) : Prop := Below n₀ W W' ∧ W'.heap[Bf]? = W.heap[Bf]? ∧ W'.heap[Bt]? = W.heap[Bt]?
theorem kpt_t {n₀ Bf Bt : Nat} {A B C : World} (h : Kpt n₀ Bf Bt A B) (k : Kpt n₀ Bf Bt B C) : Kpt n₀ Bf Bt A C := ⟨h.1.trans k.1, k.2.1.trans h.2.1, k.2.2.trans h.2.2⟩
theorem kpt_r {n₀ Bf Bt : Nat} {A : World} : Kpt n₀ Bf Bt A A := ⟨Below.refl _ _, rfl, rfl⟩
theorem kpt_b {n₀ Bf Bt : Nat} {w : World} (hn : n₀ ≤ w.heap.size) (h1 : Bf < w.heap.size) (h2 : Bt < w.heap.size) (W : World) (l : Nat) (o o' : Obj) (hl : w.heap.size ≤ l) (h : W.heap[l]? = some o) (hc : o.isCells = false) (hw : o.isWalk = false) : Kpt n₀ Bf Bt W (W.putObj l o') := by
  have hs := (Array.getElem?_eq_some_iff.1 h).1
  have hg := grownBy_putObj' W l o'
  exact ⟨belowK_b hn W l o o' hl h hc hw, hg.block Bf (by omega) (fun e => by cases e; omega), hg.block Bt (by omega) (fun e => by cases e; omega)⟩
theorem kpt_below {n₀ Bf Bt : Nat} {A B : World} (h : Below A.heap.size A B) (hn : n₀ ≤ A.heap.size) (h1 : Bf < A.heap.size) (h2 : Bt < A.heap.size) : Kpt n₀ Bf Bt A B := ⟨h.mono hn, h.block Bf h1, h.block Bt h2⟩
theorem kpt_grown {n₀ Bf Bt : Nat} {A B C : World} {row : Option Nat} (h : Kpt n₀ Bf Bt A B) (hg : B.grownBy C row) (hn : n₀ ≤ B.heap.size) (h1 : Bf < B.heap.size) (h2 : Bt < B.heap.size) (hr : ∀ k, row = some k → n₀ ≤ k ∧ k ≠ Bf ∧ k ≠ Bt) : Kpt n₀ Bf Bt A C :=
  ⟨h.1.grown hg hn (fun k e => (hr k e).1), (hg.block Bf h1 (fun e => (hr Bf e.symm).2.1 rfl)).trans h.2.1, (hg.block Bt h2 (fun e => (hr Bt e.symm).2.2 rfl)).trans h.2.2⟩

theorem kpt_drew {n₀ Bf Bt : Nat} {A B : World} (h : Kpt n₀ Bf Bt A B) (q : Nat) : Kpt n₀ Bf Bt A (B.drewN q) := ⟨⟨h.1.os, h.1.tape, h.1.output, h.1.size, h.1.block⟩, h.2.1, h.2.2⟩
theorem cut_row (b o n c q r : Nat) (h1 : q < r) (h2 : r ≤ n) (h3 : n ≤ c) (w : World) :
    (Instr.slice 32 (.slice (some ⟨b, o, none⟩) n c) (some (.int .i64 q)) (some (.int .i64 r)) (some (.int .i64 r))).run Try.prog w = .ok (.slice (some ⟨b, o + q * 2, none⟩) (r - q) (r - q)) w := by
  obtain ⟨i0, hi0, hz0, hz1, hz2⟩ := info_parts info64
  have ht' : Try.prog.underlying 32 = some (.slice (Try.prog.elem 32)) := by rw [elem_of Try.underlying32]; exact Try.underlying32
  rw [run_slice_lhm (P := Try.prog) w 32 (some ⟨b, o, none⟩) n c ht' .i64 .i64 .i64 q r r (by omega) (by omega) (by omega) (by omega), elem_of Try.underlying32, size_of w hi0 hz1]
  simp only [Result.andThen_ok, sliced, Int.toNat_natCast]
  rw [if_neg (by omega)]
  simp [addr_add]

set_option maxHeartbeats 1000000 in
theorem rows_in (n : Nat) (A A2 : Option Addr) (len cap len2 cap2 : Nat) (w : World) :
    CallsIn Fence.wide n Try.prog 91 #[.slice A len cap, .slice A2 len2 cap2] w fun e w' => e = .returned (.func (.func 105) #[] #[.pointer (some ⟨w.heap.size + 1, 0, none⟩), .pointer (some ⟨w.heap.size, 0, none⟩)]) ∧ w' = (w.alloc (.cells #[.slice A len cap] 32)).alloc (.cells #[.slice A2 len2 cap2] 32) := by
  refine callsIn_of_wp Try.func91 rfl trivial ?_ rfl
  simp only [Try.ntmps91, List.size_toArray, List.length_cons, List.length_nil, Nat.reduceAdd, Nat.reduceSub, Array.replicate_succ, Array.replicate_zero, List.push_toArray, List.append_toArray, List.nil_append, List.cons_append]
  gi_wp2
  go_ret
  exact ⟨rfl, rfl⟩

set_option maxRecDepth 100000 in
set_option maxHeartbeats 16000000 in
theorem rows1 (n : Nat) (hn : 1 ≤ n) (l Bf Bt n₀ b o : Nat) {f t : List (Int × Int)} (J Jx : List (In (dRows 0 f t)) → World → Prop) (W : World) (hJ : AbidesFrom W.heap.size J) {lo up cf lo2 up2 ct : Nat} {Af At : Option Addr}
    (hs : Sl W lo up 2 Af f.length cf (cCells f)) (hs2 : Sl W lo2 up2 2 At t.length ct (cCells t)) (hup : up ≤ n₀) (hup2 : up2 ≤ n₀) (hn₀ : n₀ ≤ W.heap.size)
    (hBf : Blk W Bf 32 #[.slice Af f.length cf]) (hBt : Blk W Bt 32 #[.slice At t.length ct]) (hl : f.length = t.length) (hle : t.length ≤ 1000000) (hAt : 0 < t.length → At = some ⟨b, o, none⟩)
    (hY : ∀ pre x W, J pre W → pre.length < (dRows 0 f t).length → YieldAt Fence.wide (n - 1) Try.prog l #[rwV b o x.1] W fun e W' =>
      (e = .returned (.bool true) ∧ J (pre ++ [x]) W' ∧ Kpt n₀ Bf Bt W W') ∨ (e = .returned (.bool false) ∧ Jx (pre ++ [x]) W'))
    (h0 : J [] W) :
    CallsIn Fence.wide n Try.prog 105 #[.func (.yield l) #[] #[], .pointer (some ⟨Bt, 0, none⟩), .pointer (some ⟨Bf, 0, none⟩)] W fun e W' => (∃ v, e = .returned v) ∧ ((∃ ys, ys = (dRows 0 f t).attach ∧ J ys W') ∨ (∃ pre, pre <+: (dRows 0 f t).attach ∧ Jx pre W')) := by
  have HY := Lib.hid hY
  have HS := Lib.hid hs
  have HS2 := Lib.hid hs2
  have HL := Lib.hid hl
  have HAt := Lib.hid hAt
  have hct := hs2.le
  have hl1 : f.length ≤ t.length := by omega
  have hl2 : t.length ≤ f.length := by omega
  clear hY hs hs2 hl hAt
  refine callsIn_of_wp Try.func105 rfl trivial ?_ rfl
  simp only [Try.ntmps105, List.size_toArray, List.length_cons, List.length_nil, Nat.reduceAdd, Nat.reduceSub, Array.replicate_succ, Array.replicate_zero, List.push_toArray, List.append_toArray, List.nil_append, List.cons_append]
  gi_wp2
  gi_loopg [4, 5] (t.length + 1) (fun gh s4 s5 wr => ∃ (p k : Nat), p ≤ t.length ∧ s4 = .int .i64 p ∧ s5 = .int .i64 p ∧ gh = t.length + 1 - p ∧ Hid (((dRows 0 f t).drop k = dRows p (f.drop p) (t.drop p))) ∧ k ≤ (dRows 0 f t).length ∧ J ((dRows 0 f t).attach.take k) wr ∧ Kpt n₀ Bf Bt W wr ∧ W.heap.size ≤ wr.heap.size)
  case atStart => exact ⟨0, 0, Nat.zero_le _, rfl, rfl, by omega, Lib.hid rfl, Nat.zero_le _, h0, kpt_r, Nat.le_refl _⟩
  case round =>
    obtain ⟨p, k, hp, rfl, rfl, hg, hrows, hk, hJs, hkp, hz⟩ := hrel
    have bf : Blk wr Bf 32 #[.slice Af f.length cf] := hkp.2.1.trans hBf
    have bt : Blk wr Bt 32 #[.slice At t.length ct] := hkp.2.2.trans hBt
    have ⟨kf, ff⟩ := bf.rules
    have ⟨kt, ft⟩ := bt.rules
    have HG := Lib.hid hg
    clear hg
    by_cases h : p < t.length
    · obtain rfl : At = some ⟨b, o, none⟩ := HAt.out (by omega)
      obtain ⟨bf', of', rfl, hgf, hcf⟩ := slc_cell (HS.out.below hkp.1 hup) (by omega)
      obtain ⟨bt', ot', et', hgt, hct'⟩ := slc_cell (HS2.out.below hkp.1 hup2) (by omega)
      injection et' with et'
      injection et' with et1 et2
      subst et1 et2
      have HCF := Lib.hid hcf
      have HCT := Lib.hid hct'
      have HJd : Hid (∀ q, J ((dRows 0 f t).attach.take k) (wr.drewN q)) := Lib.hid (fun q => hJ _ wr _ none hJs ⟨rfl, rfl, rfl, Nat.le_refl _, fun _ _ _ => rfl⟩ (fun r e => by cases e))
      clear hcf hct' hJs
      gi_wp2
      gi_loopg [4] (t.length - p) (fun gh s4 w2 => ∃ i : Nat, s4 = .int .i64 i ∧ p ≤ i ∧ i ≤ t.length ∧ gh = t.length - i ∧ Hid (i - p ≤ dSame (f.drop p) (t.drop p)) ∧ (∃ q, w2 = wr.drewN q))
      case atStart => exact ⟨p, rfl, Nat.le_refl _, hp, rfl, Lib.hid (by omega), 0, rfl⟩
      case round =>
        obtain ⟨i, rfl, hpi, hit, hg, hsame, q, rfl⟩ := hrel
        have HG2 := Lib.hid hg
        clear hg
        have hst := same_step (j := i - p) HL.out hsame.out hp
        rw [show p + (i - p) = i from by omega] at hst
        by_cases hi : i < t.length
        · have hif : i < f.length := by omega
          obtain ⟨k1, k2⟩ := HCF.out i hif
          obtain ⟨k3, k4⟩ := HCT.out i hi
          have a1 := addr_add bf' of' (i * 2)
          have a2 := addr_add b o (i * 2)
          by_cases he : f[i] = t[i]
          · have hs1 : i + 1 - p ≤ dSame (f.drop p) (t.drop p) := by have := hst.1 hif hi he; omega
            have HS1 := Lib.hid hs1
            rw [← he] at k3 k4
            clear hst hs1 he hsame
            generalize f[i].1 = x at *
            generalize f[i].2 = y at *
            gi_wp2
            gi_quiet (skip)
            gi_wp2
            gi_roundg (t.length - (i + 1))
            case measure => have := HG2.out; omega
            case rel => exact ⟨i + 1, by go_num, by omega, by omega, rfl, HS1, _, rfl⟩
          · have hs1 : i - p = dSame (f.drop p) (t.drop p) := hst.2.1 hif hi he
            have HS1 := Lib.hid hs1
            have hd1 : 1 ≤ dDiff (f.drop i) (t.drop i) := by
              have := (diff_step (p := i) (j := 0) HL.out (Nat.zero_le _) hit).1
              exact this hif hi he
            have HD1 := Lib.hid hd1
            have hne : (f[i].1 == t[i].1) = false ∨ (f[i].1 = t[i].1 ∧ (f[i].2 == t[i].2) = false) := by
              by_cases hx : f[i].1 = t[i].1
              · exact .inr ⟨hx, by simp only [beq_eq_false_iff_ne]; exact fun hh => he (Prod.ext hx hh)⟩
              · exact .inl (by simp only [beq_eq_false_iff_ne]; exact hx)
            clear hst hs1 he hsame hd1
            generalize f[i].1 = x at *
            generalize f[i].2 = y at *
            generalize t[i].1 = x2 at *
            generalize t[i].2 = y2 at *
            rcases hne with hx | ⟨rfl, hy⟩
            all_goals
              gi_wp2
              gi_quiet (skip)
              gi_wp2
              try clear hx
              try clear hy
              clear k1 k2 k3 k4 a1 a2
              gi_loopg [4] (t.length - i) (fun gh s4 w2 => ∃ i2 : Nat, s4 = .int .i64 i2 ∧ i ≤ i2 ∧ i2 ≤ t.length ∧ gh = t.length - i2 ∧ Hid (i2 - i ≤ dDiff (f.drop i) (t.drop i)) ∧ (∃ q, w2 = wr.drewN q))
              case atStart => exact ⟨i, rfl, Nat.le_refl _, hit, rfl, Lib.hid (by omega), _, by first | rfl | exact World.drewN_drewN _ _ _⟩
              case round =>
                obtain ⟨i2, rfl, hii, hi2t, hg, hdiff, q, rfl⟩ := hrel
                have HG3 := Lib.hid hg
                clear hg
                have hst := diff_step (j := i2 - i) HL.out hdiff.out hit
                rw [show i + (i2 - i) = i2 from by omega] at hst
                by_cases hi2 : i2 < t.length
                · have hif2 : i2 < f.length := by omega
                  obtain ⟨k1, k2⟩ := HCF.out i2 hif2
                  obtain ⟨k3, k4⟩ := HCT.out i2 hi2
                  have a1 := addr_add bf' of' (i2 * 2)
                  have a2 := addr_add b o (i2 * 2)
                  by_cases he : f[i2] = t[i2]
                  · have HD := Lib.hid (hst.2.1 hif2 hi2 he)
                    have hii : i < i2 := by have := HD.out; have := HD1.out; omega
                    rw [← he] at k3 k4
                    clear he hdiff
                    generalize f[i2].1 = x at *
                    generalize f[i2].2 = y at *
                    obtain ⟨hkM, hMk, hdrop⟩ := rows_next hrows.out hpi HS1.out hii HD.out
                    have hgk : (dRows 0 f t)[k] = ⟨i - p, i, (t.drop i).take (i2 - i)⟩ := by
                      rw [List.getElem?_eq_getElem hkM] at hMk
                      injection hMk
                    have hmem : (dRows 0 f t)[k] ∈ dRows 0 f t := List.getElem_mem hkM
                    have htk : (dRows 0 f t).attach.take (k + 1) = (dRows 0 f t).attach.take k ++ [⟨(dRows 0 f t)[k], hmem⟩] := by
                      rw [List.take_succ_eq_append_getElem (by rw [List.length_attach]; exact hkM), List.getElem_attach]
                    have Htk := Lib.hid htk
                    have HDrop := Lib.hid hdrop
                    have hv : rwV b o (dRows 0 f t)[k] = .agg #[.int .i64 ((i : Int) - (p : Int)), .slice (some ⟨b, o + i * 2, none⟩) (i2 - i) (i2 - i)] := by
                      rw [hgk]
                      have e1 : ((t.drop i).take (i2 - i)).length = i2 - i := by rw [List.length_take, List.length_drop]; omega
                      simp only [rwV, e1]
                      rw [show ((i - p : Nat) : Int) = (i : Int) - (p : Int) from by omega]
                    have HYk := fun q => HY.out ((dRows 0 f t).attach.take k) ⟨(dRows 0 f t)[k], hmem⟩ (wr.drewN q) (HJd.out q) (by rw [List.length_take, List.length_attach]; omega)
                    simp only [hv] at HYk
                    have HZ := Lib.hid HYk
                    have hcut := cut_row b o t.length ct i i2 hii (by omega) hct
                    have hii2 : (i : Int) < (i2 : Int) := by omega
                    have hpi2 : (p : Int) ≤ (i : Int) := by omega
                    have hi2b : (i2 : Int) ≤ 1000000 := by omega
                    clear htk hv HYk hdrop hMk hgk hst
                    gi_wp2
                    gi_quiet (skip)
                    clear k1 k2 k3 k4 a1 a2
                    have hZ := HZ.out
                    have hq0 := hZ (q + nq)
                    obtain ⟨fn, tmps, assign, body, hy, hR⟩ := hq0
                    clear hZ
                    gi_wp2
                    refine hR.mono ?_
                    rintro e W3 (⟨rfl, hJ3, hk3⟩ | ⟨rfl, hJx3⟩)
                    · gi_wp2
                      gi_roundg (t.length + 1 - i2)
                      case measure => have := HG.out; omega
                      case rel => exact ⟨i2, k + 1, hi2t, rfl, rfl, rfl, HDrop, by omega, by rw [Htk.out]; exact hJ3, kpt_t (kpt_drew hkp _) hk3, Nat.le_trans hz hk3.1.size⟩
                    · gi_wp2
                      refine bodyPost_ret (results_none rfl _ _ _) rfl ?_
                      exact ⟨⟨_, rfl⟩, .inr ⟨_, by rw [← Htk.out]; exact List.take_prefix _ _, hJx3⟩⟩
                  · have HD2 := Lib.hid (by have := hst.1 hif2 hi2 he; omega : i2 + 1 - i ≤ dDiff (f.drop i) (t.drop i))
                    have hne : (f[i2].1 == t[i2].1) = false ∨ (f[i2].1 = t[i2].1 ∧ (f[i2].2 == t[i2].2) = false) := by
                      by_cases hx : f[i2].1 = t[i2].1
                      · exact .inr ⟨hx, by simp only [beq_eq_false_iff_ne]; exact fun hh => he (Prod.ext hx hh)⟩
                      · exact .inl (by simp only [beq_eq_false_iff_ne]; exact hx)
                    clear hst he hdiff
                    generalize f[i2].1 = x at *
                    generalize f[i2].2 = y at *
                    generalize t[i2].1 = x2 at *
                    generalize t[i2].2 = y2 at *
                    rcases hne with hx | ⟨rfl, hy⟩
                    all_goals
                      gi_wp2
                      gi_quiet (skip)
                      gi_wp2
                      gi_roundg (t.length - (i2 + 1))
                      case measure => have := HG3.out; omega
                      case rel => exact ⟨i2 + 1, by go_num, by omega, by omega, rfl, HD2, _, rfl⟩
                · obtain rfl : i2 = t.length := by omega
                  have HD := Lib.hid (hst.2.2 (Nat.le_refl _))
                  have hii : i < t.length := hi
                  obtain ⟨hkM, hMk, hdrop⟩ := rows_next hrows.out hpi HS1.out hii HD.out
                  have hgk : (dRows 0 f t)[k] = ⟨i - p, i, (t.drop i).take (t.length - i)⟩ := by
                    rw [List.getElem?_eq_getElem hkM] at hMk
                    injection hMk
                  have hmem : (dRows 0 f t)[k] ∈ dRows 0 f t := List.getElem_mem hkM
                  have htk : (dRows 0 f t).attach.take (k + 1) = (dRows 0 f t).attach.take k ++ [⟨(dRows 0 f t)[k], hmem⟩] := by
                    rw [List.take_succ_eq_append_getElem (by rw [List.length_attach]; exact hkM), List.getElem_attach]
                  have Htk := Lib.hid htk
                  have HDrop := Lib.hid hdrop
                  have hv : rwV b o (dRows 0 f t)[k] = .agg #[.int .i64 ((i : Int) - (p : Int)), .slice (some ⟨b, o + i * 2, none⟩) (t.length - i) (t.length - i)] := by
                    rw [hgk]
                    have e1 : ((t.drop i).take (t.length - i)).length = t.length - i := by rw [List.length_take, List.length_drop]; omega
                    simp only [rwV, e1]
                    rw [show ((i - p : Nat) : Int) = (i : Int) - (p : Int) from by omega]
                  have HYk := fun q => HY.out ((dRows 0 f t).attach.take k) ⟨(dRows 0 f t)[k], hmem⟩ (wr.drewN q) (HJd.out q) (by rw [List.length_take, List.length_attach]; omega)
                  simp only [hv] at HYk
                  have HZ := Lib.hid HYk
                  have hcut := cut_row b o t.length ct i t.length hii (by omega) hct
                  have hit.length : (i : Int) < (t.length : Int) := by omega
                  have hpt.length : (p : Int) ≤ (i : Int) := by omega
                  have ht.lengthb : (t.length : Int) ≤ 1000000 := by omega
                  clear htk hv HYk hdrop hMk hgk hst
                  gi_wp2
                  gi_quiet (skip)
                  have hZ := HZ.out
                  have hq0 := hZ (q + nq)
                  obtain ⟨fn, tmps, assign, body, hy, hR⟩ := hq0
                  clear hZ
                  gi_wp2
                  refine hR.mono ?_
                  rintro e W3 (⟨rfl, hJ3, hk3⟩ | ⟨rfl, hJx3⟩)
                  · gi_wp2
                    gi_roundg (t.length + 1 - t.length)
                    case measure => have := HG.out; omega
                    case rel => exact ⟨t.length, k + 1, Nat.le_refl _, rfl, rfl, rfl, HDrop, by omega, by rw [Htk.out]; exact hJ3, kpt_t (kpt_drew hkp _) hk3, Nat.le_trans hz hk3.1.size⟩
                  · gi_wp2
                    refine bodyPost_ret (results_none rfl _ _ _) rfl ?_
                    exact ⟨⟨_, rfl⟩, .inr ⟨_, by rw [← Htk.out]; exact List.take_prefix _ _, hJx3⟩⟩
        · obtain rfl : i = t.length := by omega
          have hs1 : t.length - p = dSame (f.drop p) (t.drop p) := hst.2.2 (Nat.le_refl _)
          have hlast := rows_last hrows.out hp hs1
          have HLast := Lib.hid (hlast.2.trans (dRows_end t.length f t).symm)
          clear hst hs1 hsame hlast
          gi_wp2
          gi_quiet (skip)
          gi_wp2
          gi_loopg [4] 0 (fun gh s4 w2 => gh = 0 ∧ s4 = .int .i64 t.length ∧ (∃ q, w2 = wr.drewN q))
          case atStart => exact ⟨rfl, rfl, _, by first | rfl | exact World.drewN_drewN _ _ _⟩
          case round =>
            obtain ⟨-, rfl, q, rfl⟩ := hrel
            gi_wp2
            gi_quiet (skip)
            gi_wp2
            refine ⟨fun f e => (by cases e), ?_⟩
            gi_wp2
            gi_roundg (t.length + 1 - t.length)
            case measure => have := HG.out; omega
            case rel => exact ⟨t.length, k, Nat.le_refl _, rfl, rfl, rfl, HLast, hk, by first | exact HJd.out _ | (rw [World.drewN_drewN]; exact HJd.out _), by first | exact kpt_drew hkp _ | (rw [World.drewN_drewN]; exact kpt_drew hkp _), hz⟩
    · obtain rfl : p = t.length := by omega
      have hd := hrows.out.trans (dRows_end t.length f t)
      have hlk : (dRows 0 f t).length ≤ k := by
        have := congrArg List.length hd
        rw [List.length_drop] at this
        simp at this
        omega
      clear hrows hd
      rw [List.take_of_length_le (by rw [List.length_attach]; exact hlk)] at hJs
      gi_wp2
      go_end0
      exact ⟨⟨_, rfl⟩, .inl ⟨_, rfl, hJs⟩⟩
theorem rows_stops (n : Nat) (hn : 1 ≤ n) (Bf Bt n₀ b o : Nat) {f t : List (Int × Int)} {lo up cf lo2 up2 ct : Nat} {Af At : Option Addr} (w : World)
    (hs : Sl w lo up 2 Af f.length cf (cCells f)) (hs2 : Sl w lo2 up2 2 At t.length ct (cCells t)) (hup : up ≤ n₀) (hup2 : up2 ≤ n₀) (hn₀ : n₀ ≤ w.heap.size)
    (hBf : Blk w Bf 32 #[.slice Af f.length cf]) (hBt : Blk w Bt 32 #[.slice At t.length ct]) (hl : f.length = t.length) (hle : t.length ≤ 1000000) (hAt : 0 < t.length → At = some ⟨b, o, none⟩) :
    SeqStopsK Fence.wide n Try.prog 105 #[.pointer (some ⟨Bt, 0, none⟩), .pointer (some ⟨Bf, 0, none⟩)] (fun x : In (dRows 0 f t) => #[rwV b o x.1]) (Kpt n₀ Bf Bt) (fun ys => ys = (dRows 0 f t).attach) (fun pre => pre <+: (dRows 0 f t).attach) (dRows 0 f t).length w := fun l J Jx W hW hJ _ hY h0 => by
  have hz := hW.size
  exact rows1 n hn l Bf Bt n₀ b o J Jx W hJ (hs.below hW (by omega)) (hs2.below hW (by omega)) hup hup2 (by omega) (hBf.later hW) (hBt.later hW) hl hle hAt hY h0
end Go.Proofs.Ytfeeincglijmjaa
