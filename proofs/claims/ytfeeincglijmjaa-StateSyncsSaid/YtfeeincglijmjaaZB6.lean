/- Texts of this seat, one behind the other. -/
import Derived.Test.YtfeeincglijmjaaZB2
import Derived.RangeFuncNested
import Derived.RangeFuncBound
import Derived.RangeFuncCalls
import Derived.RangeFuncLeaves
import Derived.RangeFuncBox
import Derived.Shelf.Abstract
import Derived.Shelf.RegionOpen
import Derived.WalkKit
import Derived.OwnWalkIn
import Derived.TacticsInMore
import Derived.LoopNIn
import Derived.LoopIn
import Derived.Sort.QuietIn
import Derived.Sort.LoopGhostIn
import Derived.IntWalk
namespace Go.Proofs.Ytfeeincglijmjaa
/- The iterator over rows of places that are not as others, its contract. -/
section
open Go.RowKit
set_option linter.unusedVariables false
set_option linter.unusedSimpArgs false
attribute [local go_sem] Oper.semAt_some

/-- A row of those, with the word that it is one. -/
abbrev In (M : List Rw) := { r : Rw // r ∈ M }
/-- A row as a value, where the places lie. -/
def rwV (b o : Nat) (r : Rw) : Value := .agg #[.int .i64 r.s, .slice (some ⟨b, o + r.a * 2, none⟩) r.l.length r.l.length]
/-- What a round leaves: blocks ahead, and the two boxes. -/
def Kpt (n₀ Bf Bt : Nat) (W W' : World) : Prop := Below n₀ W W' ∧ W'.heap[Bf]? = W.heap[Bf]? ∧ W'.heap[Bt]? = W.heap[Bt]?
theorem kpt_t {n₀ Bf Bt : Nat} {A B C : World} (h : Kpt n₀ Bf Bt A B) (k : Kpt n₀ Bf Bt B C) : Kpt n₀ Bf Bt A C := ⟨h.1.trans k.1, k.2.1.trans h.2.1, k.2.2.trans h.2.2⟩
theorem kpt_r {n₀ Bf Bt : Nat} {A : World} : Kpt n₀ Bf Bt A A := ⟨Below.refl _ _, rfl, rfl⟩
theorem kpt_b {n₀ Bf Bt : Nat} {w : World} (hn : n₀ ≤ w.heap.size) (h1 : Bf < w.heap.size) (h2 : Bt < w.heap.size) (W : World) (l : Nat) (o o' : Obj) (hl : w.heap.size ≤ l) (h : W.heap[l]? = some o) (hc : o.isCells = false) (hw : o.isWalk = false) : Kpt n₀ Bf Bt W (W.putObj l o') := by
  have hs := (Array.getElem?_eq_some_iff.1 h).1
  have hg := grownBy_putObj' W l o'
  exact ⟨belowK_b hn W l o o' hl h hc hw, hg.block Bf (by omega) (fun e => by cases e; omega), hg.block Bt (by omega) (fun e => by cases e; omega)⟩
theorem kpt_below {n₀ Bf Bt : Nat} {A B : World} (h : Below A.heap.size A B) (hn : n₀ ≤ A.heap.size) (h1 : Bf < A.heap.size) (h2 : Bt < A.heap.size) : Kpt n₀ Bf Bt A B := ⟨h.mono hn, h.block Bf h1, h.block Bt h2⟩
theorem kpt_grown {n₀ Bf Bt : Nat} {A B C : World} {row : Option Nat} (h : Kpt n₀ Bf Bt A B) (hg : B.grownBy C row) (hn : n₀ ≤ B.heap.size) (h1 : Bf < B.heap.size) (h2 : Bt < B.heap.size) (hr : ∀ k, row = some k → n₀ ≤ k ∧ k ≠ Bf ∧ k ≠ Bt) : Kpt n₀ Bf Bt A C :=
  ⟨h.1.grown hg hn (fun k e => (hr k e).1), (hg.block Bf h1 (fun e => (hr Bf e.symm).2.1 rfl)).trans h.2.1, (hg.block Bt h2 (fun e => (hr Bt e.symm).2.2 rfl)).trans h.2.2⟩

theorem kpt_drew {n₀ Bf Bt : Nat} {A B : World} (h : Kpt n₀ Bf Bt A B) (q : Nat) : Kpt n₀ Bf Bt A (B.drewN q) := ⟨⟨h.1.os, h.1.tape, h.1.output, h.1.size, h.1.block⟩, h.2.1, h.2.2⟩
theorem cut_row (b o n c q r : Nat) (h1 : q < r) (h2 : r ≤ n) (h3 : n ≤ c) (w : World) :
    (Instr.slice 32 (.slice (some ⟨b, o, none⟩) n c) (some (.int .i64 q)) (some (.int .i64 r)) (some (.int .i64 r))).run Try.prog w = .ok (.slice (some ⟨b, o + q * 2, none⟩) (r - q) (r - q)) w := by
  obtain ⟨i0, hi0, hz0, hz1, hz2⟩ := info_parts info64
  have ht' : Try.prog.underlying 32 = some (.slice (Try.prog.elem 32)) := by rw [elem_of Try.underlying32]; exact Try.underlying32
  rw [run_slice_lhm (P := Try.prog) w 32 (some ⟨b, o, none⟩) n c ht' .i64 .i64 .i64 q r r (by omega) (by omega) (by omega) (by omega), elem_of Try.underlying32, size_of w hi0 hz1]
  simp only [Result.andThen_ok, sliced, Int.toNat_natCast]
  rw [if_neg (by omega)]
  simp [addr_add]

set_option maxHeartbeats 1000000 in
theorem rows_in (n : Nat) (A A2 : Option Addr) (len cap len2 cap2 : Nat) (w : World) :
    CallsIn Fence.wide n Try.prog 91 #[.slice A len cap, .slice A2 len2 cap2] w fun e w' => e = .returned (.func (.func 105) #[] #[.pointer (some ⟨w.heap.size + 1, 0, none⟩), .pointer (some ⟨w.heap.size, 0, none⟩)]) ∧ w' = (w.alloc (.cells #[.slice A len cap] 32)).alloc (.cells #[.slice A2 len2 cap2] 32) := by
  refine callsIn_of_wp Try.func91 rfl trivial ?_ rfl
  simp only [Try.ntmps91, List.size_toArray, List.length_cons, List.length_nil, Nat.reduceAdd, Nat.reduceSub, Array.replicate_succ, Array.replicate_zero, List.push_toArray, List.append_toArray, List.nil_append, List.cons_append]
  gi_wp2
  go_ret
  exact ⟨rfl, rfl⟩

set_option maxRecDepth 100000 in
set_option maxHeartbeats 16000000 in
theorem rows1 (n : Nat) (hn : 1 ≤ n) (l Bf Bt n₀ b o : Nat) {f t : List (Int × Int)} (J Jx : List (In (dRows 0 f t)) → World → Prop) (W : World) (hJ : AbidesFrom W.heap.size J) {lo up cf lo2 up2 ct : Nat} {Af At : Option Addr}
    (hs : Sl W lo up 2 Af f.length cf (cCells f)) (hs2 : Sl W lo2 up2 2 At t.length ct (cCells t)) (hup : up ≤ n₀) (hup2 : up2 ≤ n₀) (hn₀ : n₀ ≤ W.heap.size)
    (hBf : Blk W Bf 32 #[.slice Af f.length cf]) (hBt : Blk W Bt 32 #[.slice At t.length ct]) (hl : f.length = t.length) (hle : t.length ≤ 1000000) (hAt : 0 < t.length → At = some ⟨b, o, none⟩)
    (hY : ∀ pre x W, J pre W → pre.length < (dRows 0 f t).length → YieldAt Fence.wide (n - 1) Try.prog l #[rwV b o x.1] W fun e W' =>
      (e = .returned (.bool true) ∧ J (pre ++ [x]) W' ∧ Kpt n₀ Bf Bt W W') ∨ (e = .returned (.bool false) ∧ Jx (pre ++ [x]) W'))
    (h0 : J [] W) :
    CallsIn Fence.wide n Try.prog 105 #[.func (.yield l) #[] #[], .pointer (some ⟨Bt, 0, none⟩), .pointer (some ⟨Bf, 0, none⟩)] W fun e W' => (∃ v, e = .returned v) ∧ ((∃ ys, ys = (dRows 0 f t).attach ∧ J ys W') ∨ (∃ pre, pre <+: (dRows 0 f t).attach ∧ Jx pre W')) := by
  have HY := Lib.hid hY
  have HS := Lib.hid hs
  have HS2 := Lib.hid hs2
  have HL := Lib.hid hl
  have HAt := Lib.hid hAt
  have hct := hs2.le
  have hl1 : f.length ≤ t.length := by omega
  have hl2 : t.length ≤ f.length := by omega
  clear hY hs hs2 hl hAt
  refine callsIn_of_wp Try.func105 rfl trivial ?_ rfl
  simp only [Try.ntmps105, List.size_toArray, List.length_cons, List.length_nil, Nat.reduceAdd, Nat.reduceSub, Array.replicate_succ, Array.replicate_zero, List.push_toArray, List.append_toArray, List.nil_append, List.cons_append]
  gi_wp2
  gi_loopg [4, 5] (t.length + 1) (fun gh s4 s5 wr => ∃ (p k : Nat), p ≤ t.length ∧ s4 = .int .i64 p ∧ s5 = .int .i64 p ∧ gh = t.length + 1 - p ∧ Hid (((dRows 0 f t).drop k = dRows p (f.drop p) (t.drop p))) ∧ k ≤ (dRows 0 f t).length ∧ J ((dRows 0 f t).attach.take k) wr ∧ Kpt n₀ Bf Bt W wr ∧ W.heap.size ≤ wr.heap.size)
  case atStart => exact ⟨0, 0, Nat.zero_le _, rfl, rfl, by omega, Lib.hid rfl, Nat.zero_le _, h0, kpt_r, Nat.le_refl _⟩
  case round =>
    obtain ⟨p, k, hp, rfl, rfl, hg, hrows, hk, hJs, hkp, hz⟩ := hrel
    have bf : Blk wr Bf 32 #[.slice Af f.length cf] := hkp.2.1.trans hBf
    have bt : Blk wr Bt 32 #[.slice At t.length ct] := hkp.2.2.trans hBt
    have ⟨kf, ff⟩ := bf.rules
    have ⟨kt, ft⟩ := bt.rules
    have HG := Lib.hid hg
    clear hg
    by_cases h : p < t.length
    · obtain rfl : At = some ⟨b, o, none⟩ := HAt.out (by omega)
      obtain ⟨bf', of', rfl, hgf, hcf⟩ := slc_cell (HS.out.below hkp.1 hup) (by omega)
      obtain ⟨bt', ot', et', hgt, hct'⟩ := slc_cell (HS2.out.below hkp.1 hup2) (by omega)
      injection et' with et'
      injection et' with et1 et2
      subst et1 et2
      have HCF := Lib.hid hcf
      have HCT := Lib.hid hct'
      have HJd : Hid (∀ q, J ((dRows 0 f t).attach.take k) (wr.drewN q)) := Lib.hid (fun q => hJ _ wr _ none hJs ⟨rfl, rfl, rfl, Nat.le_refl _, fun _ _ _ => rfl⟩ (fun r e => by cases e))
      clear hcf hct' hJs
      gi_wp2
      gi_loopg [4] (t.length - p) (fun gh s4 w2 => ∃ i : Nat, s4 = .int .i64 i ∧ p ≤ i ∧ i ≤ t.length ∧ gh = t.length - i ∧ Hid (i - p ≤ dSame (f.drop p) (t.drop p)) ∧ (∃ q, w2 = wr.drewN q))
      case atStart => exact ⟨p, rfl, Nat.le_refl _, hp, rfl, Lib.hid (by omega), 0, rfl⟩
      case round =>
        obtain ⟨i, rfl, hpi, hit, hg, hsame, q, rfl⟩ := hrel
        have HG2 := Lib.hid hg
        clear hg
        have hst := same_step (j := i - p) HL.out hsame.out hp
        rw [show p + (i - p) = i from by omega] at hst
        by_cases hi : i < t.length
        · have hif : i < f.length := by omega
          obtain ⟨k1, k2⟩ := HCF.out i hif
          obtain ⟨k3, k4⟩ := HCT.out i hi
          have a1 := addr_add bf' of' (i * 2)
          have a2 := addr_add b o (i * 2)
          by_cases he : f[i] = t[i]
          · have hs1 : i + 1 - p ≤ dSame (f.drop p) (t.drop p) := by have := hst.1 hif hi he; omega
            have HS1 := Lib.hid hs1
            rw [← he] at k3 k4
            clear hst hs1 he hsame
            generalize f[i].1 = x at *
            generalize f[i].2 = y at *
            gi_wp2
            gi_quiet (skip)
            gi_wp2
            gi_roundg (t.length - (i + 1))
            case measure => have := HG2.out; omega
            case rel => exact ⟨i + 1, by go_num, by omega, by omega, rfl, HS1, _, rfl⟩
          · have hs1 : i - p = dSame (f.drop p) (t.drop p) := hst.2.1 hif hi he
            have HS1 := Lib.hid hs1
            have hd1 : 1 ≤ dDiff (f.drop i) (t.drop i) := by
              have := (diff_step (p := i) (j := 0) HL.out (Nat.zero_le _) hit).1
              exact this hif hi he
            have HD1 := Lib.hid hd1
            have hne : (f[i].1 == t[i].1) = false ∨ (f[i].1 = t[i].1 ∧ (f[i].2 == t[i].2) = false) := by
              by_cases hx : f[i].1 = t[i].1
              · exact .inr ⟨hx, by simp only [beq_eq_false_iff_ne]; exact fun hh => he (Prod.ext hx hh)⟩
              · exact .inl (by simp only [beq_eq_false_iff_ne]; exact hx)
            clear hst hs1 he hsame hd1
            generalize f[i].1 = x at *
            generalize f[i].2 = y at *
            generalize t[i].1 = x2 at *
            generalize t[i].2 = y2 at *
            rcases hne with hx | ⟨rfl, hy⟩
            all_goals
              gi_wp2
              gi_quiet (skip)
              gi_wp2
              try clear hx
              try clear hy
              clear k1 k2 k3 k4 a1 a2
              gi_loopg [4] (t.length - i) (fun gh s4 w2 => ∃ i2 : Nat, s4 = .int .i64 i2 ∧ i ≤ i2 ∧ i2 ≤ t.length ∧ gh = t.length - i2 ∧ Hid (i2 - i ≤ dDiff (f.drop i) (t.drop i)) ∧ (∃ q, w2 = wr.drewN q))
              case atStart => exact ⟨i, rfl, Nat.le_refl _, hit, rfl, Lib.hid (by omega), _, by first | rfl | exact World.drewN_drewN _ _ _⟩
              case round =>
                obtain ⟨i2, rfl, hii, hi2t, hg, hdiff, q, rfl⟩ := hrel
                have HG3 := Lib.hid hg
                clear hg
                have hst := diff_step (j := i2 - i) HL.out hdiff.out hit
                rw [show i + (i2 - i) = i2 from by omega] at hst
                by_cases hi2 : i2 < t.length
                · have hif2 : i2 < f.length := by omega
                  obtain ⟨k1, k2⟩ := HCF.out i2 hif2
                  obtain ⟨k3, k4⟩ := HCT.out i2 hi2
                  have a1 := addr_add bf' of' (i2 * 2)
                  have a2 := addr_add b o (i2 * 2)
                  by_cases he : f[i2] = t[i2]
                  · have HD := Lib.hid (hst.2.1 hif2 hi2 he)
                    have hii : i < i2 := by have := HD.out; have := HD1.out; omega
                    rw [← he] at k3 k4
                    clear he hdiff
                    generalize f[i2].1 = x at *
                    generalize f[i2].2 = y at *
                    obtain ⟨hkM, hMk, hdrop⟩ := rows_next hrows.out hpi HS1.out hii HD.out
                    have hgk : (dRows 0 f t)[k] = ⟨i - p, i, (t.drop i).take (i2 - i)⟩ := by
                      rw [List.getElem?_eq_getElem hkM] at hMk
                      injection hMk
                    have hmem : (dRows 0 f t)[k] ∈ dRows 0 f t := List.getElem_mem hkM
                    have htk : (dRows 0 f t).attach.take (k + 1) = (dRows 0 f t).attach.take k ++ [⟨(dRows 0 f t)[k], hmem⟩] := by
                      rw [List.take_succ_eq_append_getElem (by rw [List.length_attach]; exact hkM), List.getElem_attach]
                    have Htk := Lib.hid htk
                    have HDrop := Lib.hid hdrop
                    have hv : rwV b o (dRows 0 f t)[k] = .agg #[.int .i64 ((i : Int) - (p : Int)), .slice (some ⟨b, o + i * 2, none⟩) (i2 - i) (i2 - i)] := by
                      rw [hgk]
                      have e1 : ((t.drop i).take (i2 - i)).length = i2 - i := by rw [List.length_take, List.length_drop]; omega
                      simp only [rwV, e1]
                      rw [show ((i - p : Nat) : Int) = (i : Int) - (p : Int) from by omega]
                    have HYk := fun q => HY.out ((dRows 0 f t).attach.take k) ⟨(dRows 0 f t)[k], hmem⟩ (wr.drewN q) (HJd.out q) (by rw [List.length_take, List.length_attach]; omega)
                    simp only [hv] at HYk
                    have HZ := Lib.hid HYk
                    have hcut := cut_row b o t.length ct i i2 hii (by omega) hct
                    have hii2 : (i : Int) < (i2 : Int) := by omega
                    have hpi2 : (p : Int) ≤ (i : Int) := by omega
                    have hi2b : (i2 : Int) ≤ 1000000 := by omega
                    clear htk hv HYk hdrop hMk hgk hst
                    gi_wp2
                    gi_quiet (skip)
                    clear k1 k2 k3 k4 a1 a2
                    have hZ := HZ.out
                    have hq0 := hZ (q + nq)
                    obtain ⟨fn, tmps, assign, body, hy, hR⟩ := hq0
                    clear hZ
                    gi_wp2
                    refine hR.mono ?_
                    rintro e W3 (⟨rfl, hJ3, hk3⟩ | ⟨rfl, hJx3⟩)
                    · gi_wp2
                      gi_roundg (t.length + 1 - i2)
                      case measure => have := HG.out; omega
                      case rel => exact ⟨i2, k + 1, hi2t, rfl, rfl, rfl, HDrop, by omega, by rw [Htk.out]; exact hJ3, kpt_t (kpt_drew hkp _) hk3, Nat.le_trans hz hk3.1.size⟩
                    · gi_wp2
                      refine bodyPost_ret (results_none rfl _ _ _) rfl ?_
                      exact ⟨⟨_, rfl⟩, .inr ⟨_, by rw [← Htk.out]; exact List.take_prefix _ _, hJx3⟩⟩
                  · have HD2 := Lib.hid (by have := hst.1 hif2 hi2 he; omega : i2 + 1 - i ≤ dDiff (f.drop i) (t.drop i))
                    have hne : (f[i2].1 == t[i2].1) = false ∨ (f[i2].1 = t[i2].1 ∧ (f[i2].2 == t[i2].2) = false) := by
                      by_cases hx : f[i2].1 = t[i2].1
                      · exact .inr ⟨hx, by simp only [beq_eq_false_iff_ne]; exact fun hh => he (Prod.ext hx hh)⟩
                      · exact .inl (by simp only [beq_eq_false_iff_ne]; exact hx)
                    clear hst he hdiff
                    generalize f[i2].1 = x at *
                    generalize f[i2].2 = y at *
                    generalize t[i2].1 = x2 at *
                    generalize t[i2].2 = y2 at *
                    rcases hne with hx | ⟨rfl, hy⟩
                    all_goals
                      gi_wp2
                      gi_quiet (skip)
                      gi_wp2
                      gi_roundg (t.length - (i2 + 1))
                      case measure => have := HG3.out; omega
                      case rel => exact ⟨i2 + 1, by go_num, by omega, by omega, rfl, HD2, _, rfl⟩
                · obtain rfl : i2 = t.length := by omega
                  have HD := Lib.hid (hst.2.2 (Nat.le_refl _))
                  have hii : i < t.length := hi
                  obtain ⟨hkM, hMk, hdrop⟩ := rows_next hrows.out hpi HS1.out hii HD.out
                  have hgk : (dRows 0 f t)[k] = ⟨i - p, i, (t.drop i).take (t.length - i)⟩ := by
                    rw [List.getElem?_eq_getElem hkM] at hMk
                    injection hMk
                  have hmem : (dRows 0 f t)[k] ∈ dRows 0 f t := List.getElem_mem hkM
                  have htk : (dRows 0 f t).attach.take (k + 1) = (dRows 0 f t).attach.take k ++ [⟨(dRows 0 f t)[k], hmem⟩] := by
                    rw [List.take_succ_eq_append_getElem (by rw [List.length_attach]; exact hkM), List.getElem_attach]
                  have Htk := Lib.hid htk
                  have HDrop := Lib.hid hdrop
                  have hv : rwV b o (dRows 0 f t)[k] = .agg #[.int .i64 ((i : Int) - (p : Int)), .slice (some ⟨b, o + i * 2, none⟩) (t.length - i) (t.length - i)] := by
                    rw [hgk]
                    have e1 : ((t.drop i).take (t.length - i)).length = t.length - i := by rw [List.length_take, List.length_drop]; omega
                    simp only [rwV, e1]
                    rw [show ((i - p : Nat) : Int) = (i : Int) - (p : Int) from by omega]
                  have HYk := fun q => HY.out ((dRows 0 f t).attach.take k) ⟨(dRows 0 f t)[k], hmem⟩ (wr.drewN q) (HJd.out q) (by rw [List.length_take, List.length_attach]; omega)
                  simp only [hv] at HYk
                  have HZ := Lib.hid HYk
                  have hcut := cut_row b o t.length ct i t.length hii (by omega) hct
                  have hit.length : (i : Int) < (t.length : Int) := by omega
                  have hpt.length : (p : Int) ≤ (i : Int) := by omega
                  have ht.lengthb : (t.length : Int) ≤ 1000000 := by omega
                  clear htk hv HYk hdrop hMk hgk hst
                  gi_wp2
                  gi_quiet (skip)
                  have hZ := HZ.out
                  have hq0 := hZ (q + nq)
                  obtain ⟨fn, tmps, assign, body, hy, hR⟩ := hq0
                  clear hZ
                  gi_wp2
                  refine hR.mono ?_
                  rintro e W3 (⟨rfl, hJ3, hk3⟩ | ⟨rfl, hJx3⟩)
                  · gi_wp2
                    gi_roundg (t.length + 1 - t.length)
                    case measure => have := HG.out; omega
                    case rel => exact ⟨t.length, k + 1, Nat.le_refl _, rfl, rfl, rfl, HDrop, by omega, by rw [Htk.out]; exact hJ3, kpt_t (kpt_drew hkp _) hk3, Nat.le_trans hz hk3.1.size⟩
                  · gi_wp2
                    refine bodyPost_ret (results_none rfl _ _ _) rfl ?_
                    exact ⟨⟨_, rfl⟩, .inr ⟨_, by rw [← Htk.out]; exact List.take_prefix _ _, hJx3⟩⟩
        · obtain rfl : i = t.length := by omega
          have hs1 : t.length - p = dSame (f.drop p) (t.drop p) := hst.2.2 (Nat.le_refl _)
          have hlast := rows_last hrows.out hp hs1
          have HLast := Lib.hid (hlast.2.trans (dRows_end t.length f t).symm)
          clear hst hs1 hsame hlast
          gi_wp2
          gi_quiet (skip)
          gi_wp2
          gi_loopg [4] 0 (fun gh s4 w2 => gh = 0 ∧ s4 = .int .i64 t.length ∧ (∃ q, w2 = wr.drewN q))
          case atStart => exact ⟨rfl, rfl, _, by first | rfl | exact World.drewN_drewN _ _ _⟩
          case round =>
            obtain ⟨-, rfl, q, rfl⟩ := hrel
            gi_wp2
            gi_quiet (skip)
            gi_wp2
            refine ⟨fun f e => (by cases e), ?_⟩
            gi_wp2
            gi_roundg (t.length + 1 - t.length)
            case measure => have := HG.out; omega
            case rel => exact ⟨t.length, k, Nat.le_refl _, rfl, rfl, rfl, HLast, hk, by first | exact HJd.out _ | (rw [World.drewN_drewN]; exact HJd.out _), by first | exact kpt_drew hkp _ | (rw [World.drewN_drewN]; exact kpt_drew hkp _), hz⟩
    · obtain rfl : p = t.length := by omega
      have hd := hrows.out.trans (dRows_end t.length f t)
      have hlk : (dRows 0 f t).length ≤ k := by
        have := congrArg List.length hd
        rw [List.length_drop] at this
        simp at this
        omega
      clear hrows hd
      rw [List.take_of_length_le (by rw [List.length_attach]; exact hlk)] at hJs
      gi_wp2
      go_end0
      exact ⟨⟨_, rfl⟩, .inl ⟨_, rfl, hJs⟩⟩
theorem rows_stops (n : Nat) (hn : 1 ≤ n) (Bf Bt n₀ b o : Nat) {f t : List (Int × Int)} {lo up cf lo2 up2 ct : Nat} {Af At : Option Addr} (w : World)
    (hs : Sl w lo up 2 Af f.length cf (cCells f)) (hs2 : Sl w lo2 up2 2 At t.length ct (cCells t)) (hup : up ≤ n₀) (hup2 : up2 ≤ n₀) (hn₀ : n₀ ≤ w.heap.size)
    (hBf : Blk w Bf 32 #[.slice Af f.length cf]) (hBt : Blk w Bt 32 #[.slice At t.length ct]) (hl : f.length = t.length) (hle : t.length ≤ 1000000) (hAt : 0 < t.length → At = some ⟨b, o, none⟩) :
    SeqStopsK Fence.wide n Try.prog 105 #[.pointer (some ⟨Bt, 0, none⟩), .pointer (some ⟨Bf, 0, none⟩)] (fun x : In (dRows 0 f t) => #[rwV b o x.1]) (Kpt n₀ Bf Bt) (fun ys => ys = (dRows 0 f t).attach) (fun pre => pre <+: (dRows 0 f t).attach) (dRows 0 f t).length w := fun l J Jx W hW hJ _ hY h0 => by
  have hz := hW.size
  exact rows1 n hn l Bf Bt n₀ b o J Jx W hJ (hs.below hW (by omega)) (hs2.below hW (by omega)) hup hup2 (by omega) (hBf.later hW) (hBt.later hW) hl hle hAt hY h0
end

/- The walk of diff.changes. -/
section
open Go.RowKit
set_option linter.unusedVariables false
set_option linter.unusedSimpArgs false
attribute [local go_sem] Oper.semAt_some

theorem wpListIn_append_sl2 {F : Fence} {n : Nat} {P : Program} (w : World) {ops : Array Oper} {rest : List Oper} {o : Oper} {a : Act} {Q : Exit → Act → World → Prop} (hgd : o.guard = none) (s x : Operand) (t : TypeId)
    (ho : o.op = .call { callee := .builtin .append, args := #[s, x], argTypes := #[t, t] })
    (base : Nat) (e : TypeId) (i : TypeInfo) (z : Value) (size bytes : Nat) (ht : P.underlying t = some (.slice e)) (hi : P.info? e = some i) (hz : i.zero = some z)
    (hsize : i.size = size) (hby : i.bytes = bytes) (hzs : z.cells.size = size) (hsz : 0 < size)
    (v : Value) (m : Nat) (xs : List Value) (hs : a.eval s = v) (hown : w.ownsRow base e size v m xs)
    (lo up : Nat) (A : Option Addr) (k c : Nat) (news : List Value) (hx : a.eval x = .slice A k c) (hr : Sl w lo up size A k c news) (h1 : ∀ u ∈ news, u.oneCell' = true)
    (j : Nat) (hk : m + k = j) (ys : List Value) (hys : xs ++ news = ys)
    (h63 : j ≤ maxLen) (hbytes : j * bytes ≤ 140737488355328) (hbase : base ≤ w.heap.size)
    (h : ∀ A' c' w', w'.ownsRow base e size (.slice A' j c') j ys → w.grownBy w' v.ownBlock → (∀ g, Value.ownBlock (.slice A' j c') = some g → v.ownBlock = some g ∨ w.heap.size ≤ g) → wpListIn F n P ops Q rest (a.put o.dst (.slice A' j c')) w') : wpListIn F n P ops Q (o :: rest) a w := by
  refine wpListIn_plain hgd fun K hK => ?_
  obtain ⟨A', c', w', hrun, h2, h3, h4⟩ := run_append_sl2 (P := P) w base t o.type e i z size bytes ht hi hz hsize hby hzs hsz v m xs hown lo up A k c news hr h1 j hk ys hys h63 hbytes hbase
  unfold Oper.wpIn
  refine ⟨?_, ?_⟩
  · simp [Oper.about, ho, resolve, Target.leads, Sem.run_pure]
  · rw [Oper.semAt_plain F _ _ (by rw [ho]; intro c hc'; cases hc')]
    simp [execOp, ho, resolve, invoke, builtin, hs, hx, hrun, Result.andThen]
    exact hK _ _ (h A' c' w' h2 h3 h4)

theorem blk_from {β : Type} (B g : Nat) (t : TypeId) (cs : β → Array Value) : OwnFrom B (fun (s : β) W => Blk W g t (cs s)) := fun s W W' row hs hg hr =>
  hs.grown hg fun e => by
    obtain ⟨_, o, ho, hc⟩ := hr g e.symm
    unfold Blk at hs
    rw [hs] at ho
    cases ho
    cases hc
theorem pure_from {β : Type} (B : Nat) (p : β → Prop) : OwnFrom B (fun (s : β) _ => p s) := fun _ _ _ _ hs _ _ => hs
theorem own_kept_from {W W' : World} {base : Nat} {e : TypeId} {s : Nat} {v : Value} {n : Nat} {xs : List Value} {row : Option Nat} {B : Nat} (h : W.ownsRow base e s v n xs) (hg : W.grownBy W' row) (hr : ∀ r, row = some r → B ≤ r ∧ ∃ o : Obj, W.heap[r]? = some o ∧ o.isCells = false) : W'.ownsRow base e s v n xs := by
  refine h.kept hg ?_
  rcases h.2 with ⟨rfl, _⟩ | ⟨g, cap, cur, rfl, _, hgb, _⟩
  · exact .inl rfl
  · refine .inr fun e' => ?_
    obtain ⟨_, o, ho, hc⟩ := hr g (by simpa [Value.ownBlock] using e'.symm)
    rw [hgb] at ho; cases ho; cases hc
theorem keeps_below {W W' : World} (h : Below W.heap.size W W') : KeepsOthers W W' := ⟨h.size, fun k o hk _ => (h.block k (Array.getElem?_eq_some_iff.1 hk).1).trans hk⟩
theorem keeps_grown {W W' : World} {base : Nat} {e : TypeId} {s : Nat} {v : Value} {n : Nat} {xs : List Value} (h : W.ownsRow base e s v n xs) (hg : W.grownBy W' v.ownBlock) : KeepsOthers W W' := ⟨hg.size, fun k o hk ho => by
  refine (hg.block k (Array.getElem?_eq_some_iff.1 hk).1 fun e' => ?_).trans hk
  rcases h.2 with ⟨rfl, _⟩ | ⟨g, cap, cur, rfl, _, hgb, _⟩
  · simp [Value.ownBlock] at e'
  · obtain rfl : k = g := by simpa [Value.ownBlock] using e'
    rw [hgb] at hk; cases hk; cases ho⟩
theorem not_row3 {W : World} {g base n : Nat} {t : TypeId} {v : Value} {xs : List Value} {cs : Array Value} (ht : t ≠ 3) (hb : Blk W g t cs) (h : W.ownsRow base 3 1 v n xs) : some g ≠ v.ownBlock := by
  rcases h.2 with ⟨rfl, _⟩ | ⟨g', cap, cur, rfl, _, hgb, _⟩
  · simp [Value.ownBlock]
  · intro e
    obtain rfl : g = g' := by simpa [Value.ownBlock] using e
    unfold Blk at hb
    rw [hb] at hgb
    injection hgb with hgb
    injection hgb with _ h2
    exact ht h2

/-- A variable that holds numbers of the callee's own. -/
def LL (W : World) (base g : Nat) (L : List Int) : Prop := ∃ A c, Blk W g 88 #[.slice A L.length c] ∧ W.ownsRow base 3 1 (.slice A L.length c) L.length (intCells L)
theorem LL.later {W W' : World} {base g : Nat} {L : List Int} (h : LL W base g L) (hb : Below W.heap.size W W') : LL W' base g L := by
  obtain ⟨A, c, h1, h2⟩ := h
  exact ⟨A, c, h1.later hb, own_below h2 hb (Nat.le_refl _)⟩
theorem LL.alloc {W : World} {base g : Nat} {L : List Int} (h : LL W base g L) (o : Obj) : LL (W.alloc o) base g L := h.later ((Below.refl _ W).alloc (Nat.le_refl _) o)
theorem ll_from {β : Type} (B base g : Nat) (f : β → List Int) : OwnFrom B (fun (s : β) W => LL W base g (f s)) := by
  rintro s W W' row ⟨A, c, h1, h2⟩ hg hr
  exact ⟨A, c, blk_from B g 88 (fun _ => _) s W W' row h1 hg hr, own_kept_from h2 hg hr⟩
/-- What a step leaves: blocks ahead, the boxes, and whatever is no row of cells. -/
def Stp (n₀ Bf Bt : Nat) (W W' : World) : Prop := KeepsOthers W W' ∧ Kpt n₀ Bf Bt W W'
theorem stp_t {n₀ Bf Bt : Nat} {A B C : World} (h : Stp n₀ Bf Bt A B) (k : Stp n₀ Bf Bt B C) : Stp n₀ Bf Bt A C := ⟨h.1.trans k.1, kpt_t h.2 k.2⟩
theorem stp_r {n₀ Bf Bt : Nat} {A : World} : Stp n₀ Bf Bt A A := ⟨keeps_below (Below.refl _ _), kpt_r⟩
theorem stp_alloc {n₀ Bf Bt : Nat} (A : World) (o : Obj) (hn : n₀ ≤ A.heap.size) (h1 : Bf < A.heap.size) (h2 : Bt < A.heap.size) : Stp n₀ Bf Bt A (A.alloc o) :=
  ⟨KeepsOthers.alloc _ _, kpt_below ((Below.refl _ A).alloc (Nat.le_refl _) o) hn h1 h2⟩
theorem stp_set {n₀ Bf Bt : Nat} (A : World) (p : Addr) (u : Value) (hn : n₀ ≤ p.block) (h1 : p.block ≠ Bf) (h2 : p.block ≠ Bt) : Stp n₀ Bf Bt A (A.setCell p u) :=
  ⟨KeepsOthers.setCell _ _ _, (Below.refl _ A).setCell hn u, Below.heap_setCell _ _ _ _ (fun e => h1 e.symm), Below.heap_setCell _ _ _ _ (fun e => h2 e.symm)⟩
/-- The numbers grow by some that were just laid. -/
theorem LL.grow {n₀ Bf Bt W0 : Nat} {W w1 : World} {base g : Nat} {L m : List Int} {A A' : Option Addr} {c c' : Nat} {o : Obj} {cf ct : Array Value} (h1 : Blk W g 88 #[.slice A L.length c]) (h2 : W.ownsRow base 3 1 (.slice A L.length c) L.length (intCells L))
    (hbf : Blk W Bf 32 cf) (hbt : Blk W Bt 32 ct) (hn : n₀ ≤ base) (hng : n₀ ≤ g) (hb : base ≤ W.heap.size)
    (hown : w1.ownsRow base 3 1 (.slice A' (L ++ m).length c') (L ++ m).length (intCells (L ++ m))) (hg : (W.alloc o).grownBy w1 (Value.ownBlock (.slice A L.length c))) :
    Blk w1 g 88 #[.slice A L.length c] ∧ LL (w1.setCell ⟨g, 0, none⟩ (.slice A' (L ++ m).length c')) base g (L ++ m) ∧ Stp n₀ Bf Bt W (w1.setCell ⟨g, 0, none⟩ (.slice A' (L ++ m).length c')) ∧ Blk w1 Bf 32 cf ∧ Blk w1 Bt 32 ct := by
  have g1 : Blk w1 g 88 #[.slice A L.length c] := (h1.alloc o).grown hg (not_row3 (by decide) h1 h2)
  have g2 : Blk w1 Bf 32 cf := (hbf.alloc o).grown hg (not_row3 (by decide) hbf h2)
  have g3 : Blk w1 Bt 32 ct := (hbt.alloc o).grown hg (not_row3 (by decide) hbt h2)
  have lf := hbf.lt
  have lt := hbt.lt
  have ng1 : g ≠ Bf := by
    rintro rfl
    unfold Blk at h1 hbf
    rw [h1] at hbf
    injection hbf with hbf
    injection hbf with _ ht
    cases ht
  have ng2 : g ≠ Bt := by
    rintro rfl
    unfold Blk at h1 hbt
    rw [h1] at hbt
    injection hbt with hbt
    injection hbt with _ ht
    cases ht
  have s1 : Stp n₀ Bf Bt W (W.alloc o) := stp_alloc W o (by omega) lf lt
  have s2 : Stp n₀ Bf Bt (W.alloc o) w1 := ⟨keeps_grown (own_alloc h2 o) hg, kpt_grown kpt_r hg (by rw [World.size_alloc]; omega) (by rw [World.size_alloc]; omega) (by rw [World.size_alloc]; omega) (fun k e => ⟨by have := (h2.lt k e).1; omega, fun ek => by subst ek; exact not_row3 (by decide) hbf h2 e.symm, fun ek => by subst ek; exact not_row3 (by decide) hbt h2 e.symm⟩)⟩
  exact ⟨g1, ⟨A', c', g1.set_ 0 _, own_setBlk hown g1 (by decide) _ _⟩, stp_t (stp_t s1 s2) (stp_set w1 _ _ hng ng1 ng2), g2, g3⟩
end

/- The walk of diff.changes. -/
section
open Go.RowKit
set_option linter.unusedVariables false
set_option linter.unusedSimpArgs false
attribute [local go_sem] Oper.semAt_some

/-- What numbers of the callee's own are handed back as. -/
def RetI (w : World) (l : List Int) (e : Ending) (w' : World) : Prop :=
  ∃ A c, e = .returned (.slice A l.length c) ∧ w'.ownsRow w.heap.size 3 1 (.slice A l.length c) l.length (intCells l) ∧ Below w.heap.size w w'
/-- The rows that came. -/
def vals {M : List Rw} (l : List (In M)) : List Rw := l.map (·.1)
theorem vals_snoc {M : List Rw} (l : List (In M)) (x : In M) : vals (l ++ [x]) = vals l ++ [x.1] := by simp [vals]
theorem vals_all (M : List Rw) : vals M.attach = M := by unfold vals; exact List.attach_map_subtype_val M
theorem vals_len {M : List Rw} (l : List (In M)) : (vals l).length = l.length := by simp [vals]

theorem rows_mem (T : List (Int × Int)) (r : Rw) : ∀ (k p : Nat) (f : List (Int × Int)), p ≤ T.length → r ∈ dRowsF k p f (T.drop p) → r.a + r.l.length ≤ T.length ∧ (T.drop r.a).take r.l.length = r.l ∧ 0 < r.l.length ∧ r.s ≤ r.a
  | 0, p, f, hp, h => by simp [dRowsF] at h
  | k + 1, p, f, hp, h => by
    simp only [dRowsF] at h
    have h1 := dDiff_le (f.drop (dSame f (T.drop p))) ((T.drop p).drop (dSame f (T.drop p)))
    have h2 := dSame_le f (T.drop p)
    generalize dDiff (f.drop (dSame f (T.drop p))) ((T.drop p).drop (dSame f (T.drop p))) = n at *
    generalize dSame f (T.drop p) = s at *
    rw [List.length_drop, List.length_drop] at h1
    rw [List.length_drop] at h2
    by_cases h0 : n = 0
    · rw [if_pos h0] at h; cases h
    · rw [if_neg h0] at h
      rcases List.mem_cons.1 h with rfl | h
      · have e : (((T.drop p).drop s).take n).length = n := by rw [List.length_take, List.length_drop, List.length_drop]; omega
        refine ⟨?_, ?_, ?_, ?_⟩
        · show p + s + _ ≤ _; rw [e]; omega
        · show (T.drop (p + s)).take _ = _; rw [e, List.drop_drop]
        · show 0 < _; rw [e]; omega
        · show s ≤ p + s; omega
      · rw [List.drop_drop, show p + (s + n) = p + s + n from by omega] at h
        exact rows_mem T r k (p + s + n) _ (by omega) h

theorem rNums_le {M : List Rw} {q : Nat} (hM : ∀ r ∈ M, r.l.length ≤ q) : ∀ l : List (In M), (rNums (vals l)).length ≤ l.length * (2 * q + 2)
  | [] => by simp [vals, rNums]
  | x :: l => by
    have h1 := rNums_le hM l
    have h2 := hM x.1 x.2
    have h3 := cNums_length x.1.l
    simp only [vals, List.map_cons, rNums, List.length_cons, List.length_append] at h1 ⊢
    rw [Nat.add_mul]
    omega

theorem LL.grow' {n₀ Bf Bt N N2 Bx : Nat} {W w1 : World} {base g : Nat} {L m : List Int} {A A' : Option Addr} {c c' : Nat} {o : Obj} {cf ct cx : Array Value} (hN : L.length = N) (hN2 : (L ++ m).length = N2) (h1 : Blk W g 88 #[.slice A N c]) (h2 : W.ownsRow base 3 1 (.slice A N c) N (intCells L))
    (hbf : Blk W Bf 32 cf) (hbt : Blk W Bt 32 ct) (hbx : Blk W Bx 129 cx) (hn : n₀ ≤ base) (hng : n₀ ≤ g) (hb : base ≤ W.heap.size) (hgx : g ≠ Bx) (hgf : g ≠ Bf) (hgt : g ≠ Bt)
    (hown : w1.ownsRow base 3 1 (.slice A' N2 c') N2 (intCells (L ++ m))) (hg : (W.alloc o).grownBy w1 (Value.ownBlock (.slice A N c))) :
    Blk w1 g 88 #[.slice A N c] ∧ Blk w1 Bx 129 cx ∧ LL (w1.setCell ⟨g, 0, none⟩ (.slice A' N2 c')) base g (L ++ m) ∧ Stp n₀ Bf Bt W (w1.setCell ⟨g, 0, none⟩ (.slice A' N2 c')) ∧ Blk (w1.setCell ⟨g, 0, none⟩ (.slice A' N2 c')) Bf 32 cf ∧ Blk (w1.setCell ⟨g, 0, none⟩ (.slice A' N2 c')) Bt 32 ct ∧ Blk (w1.setCell ⟨g, 0, none⟩ (.slice A' N2 c')) Bx 129 cx ∧ W.heap.size < w1.heap.size := by
  subst hN
  subst hN2
  have hx := (hbx.alloc o).grown hg (not_row3 (by decide) hbx h2)
  have hz : W.heap.size < w1.heap.size := by have := hg.size; rw [World.size_alloc] at this; omega
  obtain ⟨a1, a2, a3, a4, a5⟩ := LL.grow (W0 := 0) h1 h2 hbf hbt hn hng hb hown hg
  exact ⟨a1, hx, a2, a3, a4.far hgf.symm _, a5.far hgt.symm _, hx.far hgx.symm _, hz⟩

set_option maxRecDepth 100000 in
set_option maxHeartbeats 16000000 in
theorem changes_any {lo up lo2 up2 cf ct : Nat} {Af At : Option Addr} {f t : List (Int × Int)} {w : World} (hs : Sl w lo up 2 Af f.length cf (cCells f)) (hup : up ≤ w.heap.size) (hs2 : Sl w lo2 up2 2 At t.length ct (cCells t)) (hup2 : up2 ≤ w.heap.size)
    (hl : f.length = t.length) (hle : t.length ≤ 100000) : Calls Try.prog 58 #[.slice Af f.length cf, .slice At t.length ct] w (RetI w (dChg f t)) := by
  obtain ⟨i0, hi0, hz0, hz1, hz2⟩ := info_parts info3
  obtain ⟨b, o, hAt⟩ : ∃ b o, 0 < t.length → At = some ⟨b, o, none⟩ := by
    by_cases h : 0 < t.length
    · obtain ⟨b, o, e, _⟩ := hs2.at_ h
      exact ⟨b, o, fun _ => e⟩
    · exact ⟨0, 0, fun hh => absurd hh h⟩
  have HL := Lib.hid hl
  have HAt := Lib.hid hAt
  clear hl hAt
  refine (callsIn_wide (n := 9)).1 ?_
  refine callsIn_of_wp_marks Try.func58 rfl trivial ?_ rfl
  simp only [Try.ntmps58, List.size_toArray, List.length_cons, List.length_nil, Nat.reduceAdd, Nat.reduceSub, Array.replicate_succ, Array.replicate_zero, List.push_toArray, List.append_toArray, List.nil_append, List.cons_append]
  gi_wp2_with (refine ⟨trivial, ?_⟩; gi_at_call 91; refine (rows_in _ _ _ _ _ _ _ _).mono ?_; rintro e w' ⟨rfl, rfl⟩)
  obtain ⟨W0, hW0⟩ : ∃ W0, ((((w.alloc (.cells #[.int .i64 0] 3)).alloc (.cells #[.slice (some ⟨w.heap.size, 0, none⟩) 1 1] 88)).alloc (.cells #[.slice Af f.length cf] 32)).alloc (.cells #[.slice At t.length ct] 32)) = W0 := ⟨_, rfl⟩
  have b1 : Blk W0 (w.heap.size + 1) 88 #[.slice (some ⟨w.heap.size, 0, none⟩) 1 1] := by rw [← hW0]; exact ((Blk.new _ 88 _ (by simp)).alloc _).alloc _
  have bF : Blk W0 (w.heap.size + 1 + 1) 32 #[.slice Af f.length cf] := by rw [← hW0]; exact (Blk.new _ 32 _ (by simp)).alloc _
  have bT : Blk W0 (w.heap.size + 1 + 1 + 1) 32 #[.slice At t.length ct] := by rw [← hW0]; exact Blk.new _ 32 _ (by simp)
  have hown : W0.ownsRow w.heap.size 3 1 (.slice (some ⟨w.heap.size, 0, none⟩) 1 1) 1 (intCells [0]) := by
    have hb : Blk W0 w.heap.size 3 #[.int .i64 0] := by rw [← hW0]; exact (((Blk.new w 3 _ rfl).alloc _).alloc _).alloc _
    exact own_mk (Nat.le_refl _) hb (Nat.le_refl _) (by unfold maxLen; omega) rfl rfl
  have hB0 : Below w.heap.size w W0 := by rw [← hW0]; exact ((((Below.refl _ w).alloc (Nat.le_refl _) _).alloc (by simp) _).alloc (by simp; omega) _).alloc (by simp; omega) _
  have hsz : w.heap.size + 4 ≤ W0.heap.size := by rw [← hW0]; simp
  have hs0 := hs.below hB0 hup
  have hs20 := hs2.below hB0 hup2
  rw [hW0]
  clear hW0
  have hN : (dRows 0 f t).length ≤ 100000 := Nat.le_trans (rows_size _ _ _ _).1 hle
  have hNum : (rNums (dRows 0 f t)).length ≤ 400000 := Nat.le_trans (rows_size (t.length + 1) 0 f t).2 (by omega)
  have HMEM : Hid (∀ r ∈ dRows 0 f t, r.a + r.l.length ≤ t.length ∧ (t.drop r.a).take r.l.length = r.l ∧ 0 < r.l.length ∧ r.s ≤ r.a) := Lib.hid (fun r hr => rows_mem t r (t.length + 1) 0 f (Nat.zero_le _) hr)
  have HS2 := Lib.hid hs2
  clear hs hs2
  refine wpIn_rangeFunc_ownH rfl (by omega) (gf := 105) (lb := #[.pointer (some ⟨w.heap.size + 1 + 1 + 1, 0, none⟩), .pointer (some ⟨w.heap.size + 1 + 1, 0, none⟩)]) rfl trivial (enters_of Try.func105 (by kernel_rfl) rfl)
    (rows_stops (9 - 1) (by omega) (w.heap.size + 1 + 1) (w.heap.size + 1 + 1 + 1) w.heap.size b o W0 hs0 hs20 hup hup2 (by omega) bF bT HL.out (by omega) HAt.out) kpt_t (kpt_b (by omega) (by omega) (by omega)) (Below.refl _ _) (fun _ => rfl)
    (fun pre W => (LL W w.heap.size (w.heap.size + 1) ((pre.length : Int) :: rNums (vals pre)) ∧ (Blk W (w.heap.size + 1 + 1) 32 #[.slice Af f.length cf] ∧ Blk W (w.heap.size + 1 + 1 + 1) 32 #[.slice At t.length ct])) ∧ Below w.heap.size w W)
    (fun _ _ _ => False)
    (OwnFrom.and (OwnFrom.and (ll_from _ _ _ _) (OwnFrom.and (blk_from _ _ _ _) (blk_from _ _ _ _))) (ownFrom_below (Nat.le_refl _) (by omega)))
    (fun _ _ _ _ _ hs _ _ => hs)
    ⟨⟨⟨_, _, b1, hown⟩, bF, bT⟩, hB0⟩
    (fun x a' W => ∃ Bx, w.heap.size + 1 + 1 + 1 < Bx ∧ Blk W Bx 129 #[.int .i64 x.1.s, .slice (some ⟨b, o + x.1.a * 2, none⟩) x.1.l.length x.1.l.length] ∧ a' = { tmps := #[.slice Af f.length cf, .slice At t.length ct, undef, undef, .slice none 0 0, .pointer (some ⟨w.heap.size + 1, 0, none⟩), .pointer (some ⟨Bx, 0, none⟩), undef, undef, .slice (some ⟨w.heap.size, 0, none⟩) 1 1, .slice Af f.length cf, .slice At t.length ct, .func (.func 105) #[] #[.pointer (some ⟨w.heap.size + 1 + 1 + 1, 0, none⟩), .pointer (some ⟨w.heap.size + 1 + 1, 0, none⟩)], rwV b o x.1, undef, undef, undef, undef, undef, undef, undef, undef, undef, undef, undef, undef, undef, undef, undef, undef, undef, undef, undef, undef, undef, undef, undef, undef, undef, undef, undef, undef, undef], defers := [] })
    (fun x a' _ X Y row hs hg hr => by obtain ⟨Bx, h1, h2, h3⟩ := hs; exact ⟨Bx, h1, blk_from _ Bx 129 (fun (_ : Unit) => _) () X Y row h2 hg hr, h3⟩)
    ?assign ?body ?done ?stop
  case assign =>
    rintro l pre ⟨r, hx⟩ W K ⟨⟨hT1, bF1, bT1⟩, hB1⟩ hK
    simp only [rwV] at *
    gi_wp2
    have st := stp_alloc (n₀ := w.heap.size) W (.cells #[.int .i64 r.s, .slice (some ⟨b, o + r.a * 2, none⟩) r.l.length r.l.length] 129) hB1.size bF1.lt bT1.lt
    exact hK _ _ (st.1.from _) st.2 ⟨⟨hT1.alloc _, bF1.alloc _, bT1.alloc _⟩, hB1.alloc hB1.size _⟩ ⟨W.heap.size, bT1.lt, Blk.new W 129 _ rfl, rfl⟩
  case body =>
    rintro l pre ⟨r, hx⟩ a' W hl ⟨rr, hrr⟩ ⟨⟨hT1, bF1, bT1⟩, hB1⟩ ⟨Bx, hBx, bX, rfl⟩ hlt
    simp only [rwV] at *
    have ⟨kx, fx⟩ := bX.rules
    obtain ⟨m1, m2, m3, m4⟩ := HMEM.out r hx
    obtain ⟨A, c, h1, h2⟩ := hT1
    have hpl : pre.length ≤ 100000 := by omega
    have hrl : (rNums (vals pre)).length ≤ 30000000000 := by
      have e1 := rNums_le (q := 100000) (fun r hr => by have := HMEM.out r hr; omega) pre
      have e2 : pre.length * (2 * 100000 + 2) ≤ 100000 * (2 * 100000 + 2) := Nat.mul_le_mul_right _ hpl
      omega
    obtain ⟨gA, hgA⟩ : ∃ gA, A = some ⟨gA, 0, none⟩ := by
      rcases h2.2 with ⟨_, h0⟩ | ⟨g', _, _, hv, _⟩
      · simp at h0
      · injection hv with hv; exact ⟨g', hv⟩
    subst hgA
    obtain ⟨R, hR⟩ : ∃ R, R = rNums (vals pre) := ⟨_, rfl⟩
    obtain ⟨k, hk⟩ : ∃ k, k = pre.length := ⟨_, rfl⟩
    have HR := Lib.hid (And.intro hR hk)
    rw [← hR] at h1 h2 hrl
    rw [← hk] at h1 h2 hpl
    obtain ⟨N0, hN0⟩ : ∃ N0, N0 = ((k : Int) :: R).length := ⟨_, rfl⟩
    have hn1 : 1 ≤ N0 := by rw [hN0]; simp
    have hn2 : N0 ≤ 30000000001 := by rw [hN0]; simp; omega
    have HN0 := Lib.hid hN0
    rw [← hN0] at h1 h2
    clear hR hk hN0
    have c0 : W.cell? ⟨gA, 0, none⟩ = some (.int .i64 k) := by rw [h2.cellAt 0 (by omega)]; rfl
    have f0 := h2.frozenAt 0
    have hk0 : (0 : Int) ≤ k := by omega
    have hk1 : (k : Int) ≤ 100000 := by omega
    have ⟨k1, f1⟩ := h1.rules
    have ho1 : (W.setCell ⟨gA, 0, none⟩ (.int .i64 ((k : Int) + 1))).ownsRow w.heap.size 3 1 (.slice (some ⟨gA, 0, none⟩) N0 c) N0 (intCells (((k : Int) + 1) :: R)) := (h2.stored 0 (.int .i64 ((k : Int) + 1))).1
    have e1 := not_row3 (by decide) h1 h2
    have e2 := not_row3 (by decide) bF1 h2
    have e3 := not_row3 (by decide) bT1 h2
    have e4 := not_row3 (by decide) bX h2
    have n1 : w.heap.size + 1 ≠ gA := fun e => e1 (by rw [e]; rfl)
    have n2 : w.heap.size + 1 + 1 ≠ gA := fun e => e2 (by rw [e]; rfl)
    have n3 : w.heap.size + 1 + 1 + 1 ≠ gA := fun e => e3 (by rw [e]; rfl)
    have n4 : Bx ≠ gA := fun e => e4 (by rw [e]; rfl)
    have hgb := (h2.lt gA rfl).1
    have st1 := stp_set (n₀ := w.heap.size) (Bf := w.heap.size + 1 + 1) (Bt := w.heap.size + 1 + 1 + 1) W ⟨gA, 0, none⟩ (.int .i64 ((k : Int) + 1)) hgb (fun e => n2 e.symm) (fun e => n3 e.symm)
    have h11 := h1.far (p := ⟨gA, 0, none⟩) n1 (.int .i64 ((k : Int) + 1))
    have bF2 := bF1.far (p := ⟨gA, 0, none⟩) n2 (.int .i64 ((k : Int) + 1))
    have bT2 := bT1.far (p := ⟨gA, 0, none⟩) n3 (.int .i64 ((k : Int) + 1))
    have bX2 := bX.far (p := ⟨gA, 0, none⟩) n4 (.int .i64 ((k : Int) + 1))
    have hzB : w.heap.size + 4 ≤ W.heap.size := by have := bX.lt; omega
    have HO1 := Lib.hid ho1
    have hrl2 : r.l.length ≤ 100000 := by omega
    have h19 : 1 ≤ 9 - 1 - 1 := by omega
    clear ho1 e1 e2 e3 e4 h1 h2 bF1 bT1 bX
    have hl1 : (((k : Int) + 1) :: R).length = N0 := by rw [HN0.out]; simp
    have hl2 : ((((k : Int) + 1) :: R) ++ [(r.s : Int), (r.l.length : Int)]).length = N0 + 2 := by rw [List.length_append, hl1]; rfl
    have GG := Lib.hid (fun A' c' w1 (hown : World.ownsRow w1 w.heap.size 3 1 (.slice A' (N0 + 2) c') (N0 + 2) (intCells ((((k : Int) + 1) :: R) ++ [(r.s : Int), (r.l.length : Int)]))) hg => LL.grow' (n₀ := w.heap.size) (Bf := w.heap.size + 1 + 1) (Bt := w.heap.size + 1 + 1 + 1) (Bx := Bx) (N := N0) (N2 := N0 + 2) (A' := A') (c' := c') (w1 := w1) (o := .cells #[.int .i64 r.s, .int .i64 r.l.length] 3) hl1 hl2 h11 HO1.out bF2 bT2 bX2 (Nat.le_refl _) (by omega) (by rw [World.size_setCell]; omega) (by omega) (by omega) (by omega) hown hg)
    clear hl1 hl2
    gi_wp2_with (gi_at_builtin; refine wpListIn_append_sl2 _ rfl (.tmp 19) (.tmp 25) 88 rfl w.heap.size 3 i0 _ 1 8 Try.underlying88 hi0 hz0 hz1 hz2 rfl (by omega) (.slice (some ⟨gA, 0, none⟩) N0 c) N0 _ rfl (own_alloc HO1.out _) W.heap.size (W.heap.size + 1) _ 2 2 _ rfl (Sl.new (g := W.heap.size) (W.setCell ⟨gA, 0, none⟩ (.int .i64 ((k : Int) + 1))) 3 #[.int .i64 r.s, .int .i64 r.l.length] 1 2 2 (intCells [(r.s : Int), (r.l.length : Int)]) (by simp) (by omega) rfl rfl) (intCells_one _) (N0 + 2) rfl _ (intCells_append _ [(r.s : Int), (r.l.length : Int)]).symm (by unfold maxLen; omega) (by omega) (by simp; omega) ?_; intro A4 c4 w4 hown4 hg4 hbl4; obtain ⟨p1, p2, p3, p4, p5, p6, p7, p8⟩ := GG.out A4 c4 w4 hown4 hg4; have ⟨kl, fl⟩ := p1.rules; have ⟨kx4, fx4⟩ := p2.rules; have hz4 : w.heap.size + 1 < w4.heap.size := by (rw [World.size_setCell] at p8; omega))
    have st2 := stp_t st1 p4
    have bb2 := hB1.trans st2.2.1
    have hlt2 : w4.heap.size ≤ (w4.setCell ⟨w.heap.size + 1, 0, none⟩ (.slice A4 (N0 + 2) c4)).heap.size := by simp
    obtain ⟨W2, hW2⟩ : ∃ W2, W2 = w4.setCell ⟨w.heap.size + 1, 0, none⟩ (.slice A4 (N0 + 2) c4) := ⟨_, rfl⟩
    rw [← hW2] at p3 p5 p6 p7 st2 bb2 hlt2 ⊢
    clear hW2 p1 p2 p4 kl fl kx4 fx4 hown4 hg4 hbl4 k1 f1 c0 f0 kx fx st1 h11 bF2 bT2 bX2
    have hW3 : W.heap.size ≤ W2.heap.size := by rw [World.size_setCell] at p8; omega
    have HGG := GG
    clear GG p8 hz4 hlt2
    obtain ⟨L1, hL1⟩ : ∃ L1, L1 = (((k : Int) + 1) :: R) ++ [(r.s : Int), (r.l.length : Int)] := ⟨_, rfl⟩
    rw [← hL1] at p3
    have hL1l : L1.length ≤ 40000000000 := by rw [hL1]; simp; omega
    have HL1 := Lib.hid hL1
    clear hL1 HGG HO1
    have ⟨kx, fx⟩ := p7.rules
    gi_wp2
    gi_loopg [30] r.l.length (fun gh s30 wr => ∃ j : Nat, s30 = .int .i64 j ∧ j ≤ r.l.length ∧ gh = r.l.length - j ∧ LL wr w.heap.size (w.heap.size + 1) (L1 ++ cNums (r.l.take j)) ∧ Blk wr (w.heap.size + 1 + 1) 32 #[.slice Af f.length cf] ∧ Blk wr (w.heap.size + 1 + 1 + 1) 32 #[.slice At t.length ct] ∧ Blk wr Bx 129 #[.int .i64 r.s, .slice (some ⟨b, o + r.a * 2, none⟩) r.l.length r.l.length] ∧ Stp w.heap.size (w.heap.size + 1 + 1) (w.heap.size + 1 + 1 + 1) W wr ∧ Below w.heap.size w wr ∧ W.heap.size ≤ wr.heap.size)
    case atStart => exact ⟨0, rfl, Nat.zero_le _, by omega, by simpa [cNums] using p3, p5, p6, p7, st2, bb2, hW3⟩
    case round =>
      clear p3 p5 p6 p7 st2 bb2 hW3 kx fx
      obtain ⟨j, rfl, hj, hg, hT, bF3, bT3, bX3, st3, bb3, hW3⟩ := hrel
      have HG := Lib.hid hg
      clear hg
      by_cases h : j < r.l.length
      · obtain ⟨A, c, h1, h2⟩ := hT
        obtain ⟨b', o', e', _, hcc⟩ := slc_cell (HS2.out.below bb3 hup2) (by omega)
        have eA := HAt.out (by omega)
        rw [eA] at e'
        injection e' with e'
        injection e' with e1 e2
        subst e1 e2
        obtain ⟨k3, k4⟩ := hcc (r.a + j) (by omega)
        have hrj : t[r.a + j] = r.l[j] := by
          have hh := congrArg (fun l => l[j]?) m2
          simp only [List.getElem?_take_of_lt h, List.getElem?_drop, List.getElem?_eq_getElem h, List.getElem?_eq_getElem (show r.a + j < t.length by omega)] at hh
          injection hh
        have htk : cNums (r.l.take (j + 1)) = cNums (r.l.take j) ++ [r.l[j].1, r.l[j].2] := by
          rw [List.take_succ_eq_append_getElem h, cNums_append]
          rfl
        have Htk := Lib.hid htk
        have eo : o + (r.a + j) * 2 = o + r.a * 2 + j * 2 := by omega
        rw [hrj, eo] at k3 k4
        clear hcc hrj htk eA eo
        have a1 := addr_add b (o + r.a * 2) (j * 2)
        generalize r.l[j].1 = x at *
        generalize r.l[j].2 = y at *
        have hcl : (cNums (r.l.take j)).length ≤ 200000 := by rw [cNums_length, List.length_take]; omega
        obtain ⟨L2, hL2⟩ : ∃ L2, L2 = L1 ++ cNums (r.l.take j) := ⟨_, rfl⟩
        have hL2l : L2.length ≤ 40000200000 := by rw [hL2, List.length_append]; omega
        rw [← hL2] at h1 h2
        have HL2 := Lib.hid hL2
        clear hL2 hcl
        obtain ⟨N0', hN0⟩ : ∃ N0', L2.length = N0' := ⟨_, rfl⟩
        rw [hN0] at h1 h2 hL2l
        have h1a := h1.alloc (.cells #[.int .i64 x, .int .i64 y] 64)
        have h2a := own_alloc h2 (.cells #[.int .i64 x, .int .i64 y] 64)
        have bFa := bF3.alloc (.cells #[.int .i64 x, .int .i64 y] 64)
        have bTa := bT3.alloc (.cells #[.int .i64 x, .int .i64 y] 64)
        have bXa := bX3.alloc (.cells #[.int .i64 x, .int .i64 y] 64)
        have sta := stp_t st3 (stp_alloc wr (.cells #[.int .i64 x, .int .i64 y] 64) (by omega) bF3.lt bT3.lt)
        have hl2 : (L2 ++ [x, y]).length = N0' + 2 := by rw [List.length_append, hN0]; rfl
        have GG := Lib.hid (fun A' c' w1 (hown : World.ownsRow w1 w.heap.size 3 1 (.slice A' (N0' + 2) c') (N0' + 2) (intCells (L2 ++ [x, y]))) hg => LL.grow' (n₀ := w.heap.size) (Bf := w.heap.size + 1 + 1) (Bt := w.heap.size + 1 + 1 + 1) (Bx := Bx) (N := N0') (N2 := N0' + 2) (A' := A') (c' := c') (w1 := w1) (o := .cells #[.int .i64 x, .int .i64 y] 3) hN0 hl2 h1a h2a bFa bTa bXa (Nat.le_refl _) (by omega) (by rw [World.size_alloc]; omega) (by omega) (by omega) (by omega) hown hg)
        have HO := Lib.hid h2a
        have ⟨kl0, fl0⟩ := h1.rules
        have ⟨kc0, fc0⟩ := (Blk.new wr 64 #[.int .i64 x, .int .i64 y] rfl).rules
        clear hl2 h2 h1a h2a bFa bTa bXa hN0
        have hgl : w.heap.size + 1 < wr.heap.size := by omega
        gi_wp2_with (gi_at_builtin; refine wpListIn_append_sl2 _ rfl (.tmp 34) (.tmp 39) 88 rfl w.heap.size 3 i0 _ 1 8 Try.underlying88 hi0 hz0 hz1 hz2 rfl (by omega) (.slice A N0' c) N0' _ rfl (own_alloc HO.out _) (wr.heap.size + 1) (wr.heap.size + 1 + 1) _ 2 2 _ rfl (Sl.new (g := wr.heap.size + 1) (wr.alloc (.cells #[.int .i64 x, .int .i64 y] 64)) 3 #[.int .i64 x, .int .i64 y] 1 2 2 (intCells [x, y]) (by simp) (by omega) rfl rfl) (intCells_one _) (N0' + 2) rfl _ (intCells_append _ [x, y]).symm (by unfold maxLen; omega) (by omega) (by simp; omega) ?_; intro A4 c4 w4 hown4 hg4 hbl4; obtain ⟨p1, p2, p3, p4, p5, p6, p7, p8⟩ := GG.out A4 c4 w4 hown4 hg4; have ⟨kl, fl⟩ := p1.rules)
        gi_roundg (r.l.length - (j + 1))
        case measure => have := HG.out; omega
        case rel => exact ⟨j + 1, by go_num, by omega, rfl, by rw [Htk.out, ← List.append_assoc, ← HL2.out]; exact p3, p5, p6, p7, stp_t sta p4, bb3.trans ((stp_t (stp_alloc wr (.cells #[.int .i64 x, .int .i64 y] 64) (by omega) bF3.lt bT3.lt) p4).2.1), by rw [World.size_setCell]; rw [World.size_alloc] at p8; omega⟩
      · obtain rfl : j = r.l.length := by omega
        rw [List.take_of_length_le (Nat.le_refl _)] at hT
        gi_wp2
        refine ⟨st3.1.from _, st3.2, ⟨?_, bF3, bT3⟩, bb3⟩
        rw [vals_snoc, rNums_append, ← HR.out.1]
        simp only [rNums, List.append_nil]
        rw [HL1.out, HR.out.2] at hT
        simpa [List.append_assoc] using hT
  case done =>
    rintro D ys W hD rfl ⟨⟨⟨A, c, h1, h2⟩, bF1, bT1⟩, hB⟩ hK
    rw [vals_all, List.length_attach] at h1 h2
    obtain ⟨L, hL⟩ : ∃ L, L = dChg f t := ⟨_, rfl⟩
    have e : ((dRows 0 f t).length : Int) :: rNums (dRows 0 f t) = L := by rw [hL]; rfl
    rw [e] at h1 h2
    have HLL := Lib.hid hL
    clear hL e
    have ⟨k1, f1⟩ := h1.rules
    gi_wp2
    refine ⟨by simp, .inl ⟨_, _, rfl, run_takeDeferred hK, ?_⟩⟩
    have r5 := own_kept_from (B := D) (row := some D) (W' := W.putObj D (.deferred none)) (W := W) h2 (grownBy_putObj' _ D _) (fun r e => by cases e; exact ⟨Nat.le_refl _, _, hK, rfl⟩)
    have b5 := hB.trans (belowK_b (w := w) (Nat.le_refl _) W D (.deferred (some [])) (.deferred none) (by omega) hK rfl rfl)
    refine ⟨.slice A L.length c, by simp [results, Try.f58, go_sem], ⟨A, c, by rw [← HLL.out], ?_, b5⟩⟩
    rw [← HLL.out]
    exact r5
  case stop =>
    rintro D c pre W _ _ h _
    exact h.elim
end
end Go.Proofs.Ytfeeincglijmjaa
