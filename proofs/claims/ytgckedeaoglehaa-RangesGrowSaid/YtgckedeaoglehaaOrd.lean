/- The walk of RangesOrder. -/
import Derived.Test.YtgckedeaoglehaaM
import Derived.Test.YtgckedeaoglehaaR
import Derived.Test.YtgckedeaoglehaaLib4
import Derived.Outline
namespace Go.Proofs.Ytgckedeaoglehaa
open Go.RowKit
set_option linter.unusedVariables false
set_option linter.unusedSimpArgs false
attribute [local go_sem ↓] Go.wp_at_zero Go.wp_at_succ

theorem info3 : (Try.prog.info? 3).map (fun i => (i.zero, i.size, i.bytes)) = some (some (.int .i64 0), 1, 8) := by kernel_rfl

theorem order_long {A : Option Addr} {n c : Nat} {x : Int} {w : World} (hn : 16 < n) : Calls Try.prog 6 #[.slice A n c, .int .u8 x] w fun e w' => e = .returned (.bool true) ∧ Below w.heap.size w w' := by
  go_enter Try.func6, Try.ntmps6
  go_wp2_with fail
  refine (awake_any _).mono ?_
  rintro e w1 ⟨rfl, bb⟩
  go_wp2
  go_ret
  exact ⟨rfl, bb⟩

/-- The cells of short numbers. -/
def uCells (l : List Int) : List Value := l.map fun x => .int .u16 x
theorem slu_cell {w : World} {lo up n c : Nat} {A : Option Addr} {l : List Int} (hr : Sl w lo up 1 A n c (uCells l)) (hn : 0 < n) :
    ∃ g o, A = some ⟨g, o, none⟩ ∧ g < up ∧ ∀ j (h : j < l.length), w.cell? ⟨g, o + j, none⟩ = some (.int .u16 l[j]) := by
  obtain ⟨g, o, rfl, _, hb, hc⟩ := hr.at_ hn
  exact ⟨g, o, rfl, hb, fun j h => by rw [hc j (by simp [uCells]; exact h)]; simp [uCells, List.getElem?_eq_getElem h]⟩
theorem slu_at {w : World} {lo up n c g o : Nat} {l : List Int} (hr : Sl w lo up 1 (some ⟨g, o, none⟩) n c (uCells l)) (hn : 0 < n) (j : Nat) (h : j < l.length) : w.cell? ⟨g, o + j, none⟩ = some (.int .u16 l[j]) := by
  obtain ⟨g', o', e, _, hc⟩ := slu_cell hr hn
  injection e with e
  injection e with e1 e2
  subst e1 e2
  exact hc j h
theorem sl_int {w : World} {x : Int} {g : Nat} (hg : w.heap.size = g) : Sl (w.alloc (.cells #[.int .i64 x] 3)) g (g + 1) 1 (some ⟨g, 0, none⟩) 1 1 (intCells [x]) := Sl.new w 3 _ 1 1 1 _ hg (Nat.le_refl _) rfl rfl

theorem take_mem {l : List Int} {i : Nat} (h : i < l.length) : l[i] ∈ l.take i ↔ ¬ ∀ t (ht : t < l.length), t < i → l[t] ≠ l[i] := by
  constructor
  · intro hm hh
    obtain ⟨j, hj, e⟩ := List.getElem_of_mem hm
    rw [List.length_take] at hj
    rw [List.getElem_take] at e
    exact hh j (by omega) (by omega) e
  · intro hh
    apply Classical.byContradiction
    intro hm
    apply hh
    intro t ht hti e
    apply hm
    rw [← e, List.mem_iff_getElem]
    exact ⟨t, by rw [List.length_take]; omega, by rw [List.getElem_take]⟩

theorem apart_step {a b a' : Option Nat} {S : Nat} (hab : ∀ g, a = some g → b ≠ some g) (hb : ∀ g, b = some g → g < S) (ha' : ∀ g, a' = some g → a = some g ∨ S ≤ g) : ∀ g, a' = some g → b ≠ some g := by
  intro g hg e
  rcases ha' g hg with h | h
  · exact hab g h e
  · have := hb g e; omega
theorem apart_sym {a b : Option Nat} (hab : ∀ g, a = some g → b ≠ some g) : ∀ g, b = some g → a ≠ some g := fun g h e => hab g e h
theorem apart_or {a b : Option Nat} (hab : ∀ g, a = some g → b ≠ some g) : a = none ∨ a ≠ b := by
  cases a with
  | none => exact .inl rfl
  | some g => exact .inr (fun e => hab g rfl e.symm)

set_option maxHeartbeats 16000000 in
set_option maxRecDepth 100000 in
theorem order_some {A : Option Addr} {n c : Nat} {l : List Int} {x : Int} {w : World} (hr : Sl w 0 w.heap.size 1 A n c (uCells l)) (hn : n ≤ 16) (h0 : 0 < n) (hl : ∀ y ∈ l, 0 ≤ y ∧ y ≤ 65535) (hx : 0 ≤ x ∧ x ≤ 255) (K : Nat) (hK : x % (n : Int) = K) (hKn : K < n) :
    Calls Try.prog 6 #[.slice A n c, .int .u8 x] w fun e w' => e = .returned (.bool true) ∧ Below w.heap.size w w' := by
  obtain ⟨i0, hi0, hz0, hz1, hz2⟩ := info_parts info3
  have hlen : n = l.length := by have := hr.len; simp [uCells] at this; omega
  subst hlen
  have HR := Lib.hid hr
  have HL := Lib.hid hl
  have HK := Lib.hid hK
  clear hr hl hK
  go_enter Try.func6, Try.ntmps6
  go_wp2_with fail
  refine (awake_any _).mono ?_
  rintro e w1 ⟨rfl, bb⟩
  have z1 := bb.size
  go_wp2_with fail
  rw [HK.out]
  go_loopg [6, 7, 9, 10] l.length (fun gh s6 s7 s9 s10 wr => ∃ (i : Nat) (sa : Option Addr) (ca : Nat) (sb : Option Addr) (cb : Nat) (bs : List Int), gh = l.length - i ∧ i ≤ l.length ∧ s6 = .slice sa i ca ∧ s7 = .slice sb i cb ∧ s9 = .int .i64 (rSum (rAll (l.take i))) ∧ s10 = .int .i64 i ∧
    wr.ownsRow w1.heap.size 3 1 (.slice sa i ca) i (intCells (l.take i)) ∧ wr.ownsRow w1.heap.size 3 1 (.slice sb i cb) i (intCells bs) ∧ Hid (bs.length = i ∧ ∀ y ∈ bs, y ∈ l) ∧ Below w.heap.size w wr ∧ w1.heap.size ≤ wr.heap.size ∧ Hid (∀ g, Value.ownBlock (.slice sa i ca) = some g → Value.ownBlock (.slice sb i cb) ≠ some g))
  case atStart => exact ⟨0, none, 0, none, 0, [], by omega, by omega, rfl, rfl, rfl, rfl, World.ownsRow_nil _ _ _ _, World.ownsRow_nil _ _ _ _, Lib.hid ⟨rfl, by simp⟩, bb, Nat.le_refl _, Lib.hid (fun g h => by cases h)⟩
  case round =>
    obtain ⟨i, sa, ca, sb, cb, bs, hg, hi, rfl, rfl, rfl, rfl, hoa, hob, hbs, bb, hz, hab⟩ := hrel
    by_cases h : i < l.length
    · have hS : rSum (rAll (l.take i)) ≤ i ∧ 0 ≤ rSum (rAll (l.take i)) := by
        have hw : nWf (l.take i) := fun y hy => by have := HL.out y (List.mem_of_mem_take hy); omega
        obtain ⟨h1, _, h3⟩ := rAll_law hw
        rw [List.length_take] at h3
        have := rSum_len h1
        omega
      have hst : rSum (rAll (l.take (i + 1))) = rSum (rAll (l.take i)) + if l[i] ∈ l.take i then 0 else 1 := rAll_take (fun y hy => by have := HL.out y hy; omega) h
      have Hst := Lib.hid hst
      have htk : l.take (i + 1) = l.take i ++ [l[i]] := List.take_succ_eq_append_getElem h
      have Htk := Lib.hid htk
      clear hst htk
      obtain ⟨q, hq⟩ : ∃ q, q = (i + K) % l.length := ⟨_, rfl⟩
      have hql : q < l.length := by rw [hq]; exact Nat.mod_lt _ h0
      have hqi : ((i : Int) + (K : Int)) % (l.length : Int) = (q : Int) := by rw [hq, Int.natCast_emod, Int.natCast_add]
      have t1 : (((i : Int) + (K : Int)) % (l.length : Int)).toNat = q := by rw [hqi]; omega
      have t2 : 0 ≤ ((i : Int) + (K : Int)) % (l.length : Int) := by rw [hqi]; omega
      have t3 : ((i : Int) + (K : Int)) % (l.length : Int) < (l.length : Int) := by rw [hqi]; omega
      clear hq hqi
      obtain ⟨g, o, rfl, hgu, hc⟩ := slu_cell (HR.out.below bb (Nat.le_refl _)) (by omega)
      have k1 := hc i h
      have k2 := hc q hql
      have a1 := addr_add g o i
      have a2 := addr_add g o q
      have b1 := HL.out l[i] (List.getElem_mem h)
      have b2 := HL.out l[q] (List.getElem_mem hql)
      have hxq : Hid (l[q] ∈ l) := Lib.hid (List.getElem_mem hql)
      clear hc
      obtain ⟨y, hy⟩ : ∃ y, y = l[i] := ⟨_, rfl⟩
      obtain ⟨z, hz2'⟩ : ∃ z, z = l[q] := ⟨_, rfl⟩
      rw [← hy] at k1 b1 Htk Hst
      rw [← hz2'] at k2 b2 hxq
      have HY := Lib.hid hy
      clear hy hz2'
      have HAB := Lib.hid (And.intro (apart_or (apart_sym hab.out)) (fun g h => (hob.lt g h).2))
      go_wp2_with (first
        | (at_builtin; refine wpList_append_sl2 _ rfl (.tmp 34) (.tmp 40) _ rfl w1.heap.size 3 i0 _ 1 8 Try.underlying29 hi0 hz0 hz1 hz2 rfl (by omega) (.slice sa i ca) i _ rfl (own_alloc hoa _) wr.heap.size (wr.heap.size + 1) _ 1 1 _ rfl (sl_int (w := wr) (x := y) rfl) (intCells_one _) (i + 1) rfl _ (intCells_append _ [y]).symm (by unfold maxLen; omega) (by omega) (by simp; omega) ?_; intro sa' ca' w3 hoa3 hg3 hbl3; have bb3 := (bb.alloc (by omega) (.cells #[.int .i64 y] 3)).grown hg3 (by simp; omega) (fun k hk => by have := (hoa.lt k hk).1; omega); have k3 := (bb3.cell (p := ⟨g, o + q, none⟩) hgu).trans ((bb.cell (p := ⟨g, o + q, none⟩) hgu).symm.trans k2); have hob3 := (own_alloc hob (.cells #[.int .i64 y] 3)).kept hg3 HAB.out.1; have z3 : wr.heap.size + 1 ≤ w3.heap.size := by have h : (wr.alloc (.cells #[.int .i64 y] 3)).heap.size ≤ w3.heap.size := hg3.size; rw [World.size_alloc] at h; exact h)
        | (at_builtin; refine wpList_append_sl2 _ rfl (.tmp 42) (.tmp 53) _ rfl w1.heap.size 3 i0 _ 1 8 Try.underlying29 hi0 hz0 hz1 hz2 rfl (by omega) (.slice sb i cb) i _ rfl (own_alloc hob3 _) w3.heap.size (w3.heap.size + 1) _ 1 1 _ rfl (sl_int (w := w3) (x := z) rfl) (intCells_one _) (i + 1) rfl _ (intCells_append _ [z]).symm (by unfold maxLen; omega) (by omega) (by simp; omega) ?_; intro sb' cb' w4 hob4 hg4 hbl4))
      have hab3 := apart_step hab.out (fun g h => (hob.lt g h).2) (fun g h => (hbl3 g h).imp_right (fun h => by simp at h; omega))
      have hoa4 := (own_alloc hoa3 (.cells #[.int .i64 z] 3)).kept hg4 (apart_or hab3)
      have hab4 := apart_sym (apart_step (apart_sym hab3) (fun g h => (hoa3.lt g h).2) (fun g h => (hbl4 g h).imp_right (fun h => by simp at h; omega)))
      have bb4 := (bb3.alloc (by omega) (.cells #[.int .i64 z] 3)).grown hg4 (by simp; omega) (fun k hk => by have := (hob3.lt k hk).1; omega)
      have z4 : w3.heap.size + 1 ≤ w4.heap.size := by
        have h : (w3.alloc (.cells #[.int .i64 z] 3)).heap.size ≤ w4.heap.size := hg4.size
        rw [World.size_alloc] at h
        exact h
      have HAB4 := Lib.hid hab4
      have HC4 := Lib.hid (slu_at (HR.out.below bb4 (Nat.le_refl _)) h0)
      have HBS : Hid ((bs ++ [z]).length = i + 1 ∧ ∀ y ∈ bs ++ [z], y ∈ l) := Lib.hid ⟨by simp [hbs.out.1], fun y hy => by
        rcases List.mem_append.1 hy with h1 | h1
        · exact hbs.out.2 y h1
        · rw [List.mem_singleton.1 h1]; exact hxq.out⟩
      clear hab hab3 hab4 HAB hoa hob hoa3 hob3 hg3 hg4 hbl3 hbl4 hbs hxq bb bb3 k1 k2 k3 t1 t2 t3 a2
      go_wp2_with fail
      obtain ⟨wo, rfl⟩ : ∃ wo, wo = w4 := ⟨_, rfl⟩
      go_loopg [11, 12] i (fun gi s11 s12 wi => ∃ (j : Nat) (fb : Bool), gi = i - j ∧ j ≤ i ∧ s11 = .bool fb ∧ s12 = .int .i64 j ∧ (∃ k, wi = wo.drewN k) ∧ Hid (fb = true ↔ ∀ t (ht : t < l.length), t < j → l[t] ≠ y))
      case atStart => exact ⟨0, true, by omega, by omega, rfl, rfl, ⟨0, rfl⟩, Lib.hid ⟨fun _ _ _ h => absurd h (by omega), fun _ => rfl⟩⟩
      case round =>
        obtain ⟨j, fb, hgi, hj, rfl, rfl, ⟨k, rfl⟩, hfb⟩ := hrel
        by_cases hji : j < i
        · have hjl : j < l.length := by omega
          have k1 := HC4.out j (by omega)
          have k2 := HC4.out i h
          rw [← HY.out] at k2
          have a2 := addr_add g o j
          have b3 := HL.out (l[j]'(by omega)) (List.getElem_mem _)
          cases fb
          · have hfb2 : ∀ (e : Bool), e = false → (e = true ↔ ∀ t (ht : t < l.length), t < j + 1 → l[t] ≠ y) := by
              rintro e rfl
              constructor
              · intro hh; cases hh
              · intro hh
                exact hfb.out.2 fun t ht htj => hh t ht (by omega)
            have Hfb2 := Lib.hid (hfb2 false rfl)
            clear hfb hfb2
            generalize l[j] = u at *
            go_wp2_with fail
            go_region
            go_wp2_with fail
            go_roundg (i - (j + 1))
            case measure => omega
            case rel => exact ⟨j + 1, false, rfl, by omega, rfl, by simp, ⟨k + 1, rfl⟩, Hfb2⟩
          · by_cases huy : l[j] = y
            · have Hfb2 : Hid (false = true ↔ ∀ t (ht : t < l.length), t < j + 1 → l[t] ≠ y) := Lib.hid (by
                constructor
                · intro hh; cases hh
                · intro hh; exact absurd huy (hh j (by omega) (by omega)))
              rw [huy] at k1
              clear hfb huy b3
              go_wp2_with fail
              go_region
              go_wp2_with fail
              go_roundg (i - (j + 1))
              case measure => omega
              case rel => exact ⟨j + 1, false, rfl, by omega, rfl, by simp, ⟨k + 1, rfl⟩, Hfb2⟩
            · have Hfb2 : Hid (true = true ↔ ∀ t (ht : t < l.length), t < j + 1 → l[t] ≠ y) := Lib.hid (by
                refine ⟨fun _ t ht htj => ?_, fun _ => rfl⟩
                by_cases htj2 : t < j
                · exact hfb.out.1 rfl t ht htj2
                · obtain rfl : t = j := by omega
                  exact huy)
              have hne : (l[j] != y) = true := by simpa using huy
              have hne2 : (l[j] == y) = false := by simpa using huy
              clear hfb huy
              generalize l[j] = u at *
              go_wp2_with fail
              go_region
              go_wp2_with fail
              go_roundg (i - (j + 1))
              case measure => omega
              case rel => exact ⟨j + 1, true, rfl, by omega, rfl, by simp, ⟨k + 1, rfl⟩, Lib.hid ⟨fun _ => Hfb2.out.1 trivial, fun _ => rfl⟩⟩
        · obtain rfl : j = i := by omega
          have hmem := take_mem h
          rw [← HY.out] at hmem
          cases fb
          · have hin : y ∈ l.take j := hmem.2 (fun hh => by have := hfb.out.2 hh; cases this)
            have hst := Hst.out
            rw [if_pos hin] at hst
            have Hst2 := Lib.hid hst
            clear hst hmem hin hfb Hst
            go_wp2_with fail
            go_roundg (l.length - (j + 1))
            case measure => omega
            case rel => exact ⟨j + 1, sa', ca', sb', cb', bs ++ [z], rfl, by omega, rfl, rfl, by rw [Hst2.out]; simp, by simp, by rw [Htk.out]; exact hoa4, hob4, HBS, below_drewN bb4 _, by show w1.heap.size ≤ wo.heap.size; omega, HAB4⟩
          · have hin : ¬ y ∈ l.take j := fun hh => hmem.1 hh (hfb.out.1 rfl)
            have hst := Hst.out
            rw [if_neg hin] at hst
            have Hst2 := Lib.hid hst
            clear hst hmem hin hfb Hst
            go_wp2_with fail
            go_roundg (l.length - (j + 1))
            case measure => omega
            case rel => exact ⟨j + 1, sa', ca', sb', cb', bs ++ [z], rfl, by omega, rfl, rfl, by rw [Hst2.out], by simp, by rw [Htk.out]; exact hoa4, hob4, HBS, below_drewN bb4 _, by show w1.heap.size ≤ wo.heap.size; omega, HAB4⟩
    · obtain rfl : i = l.length := by omega
      have hwf : iWf l := fun y hy => by have := HL.out y hy; omega
      have hnw : nWf l := fun y hy => by have := HL.out y hy; omega
      obtain ⟨hb1, hb2⟩ := hbs.out
      obtain ⟨o1, o2⟩ := order_law hnw hn hb2
      have hsum := (rAll_law hnw).2.2
      have hsum2 := rSum_len (rAll_law hnw).1
      have hwb : iWf (bs ++ l) := fun y hy => by
        rcases List.mem_append.1 hy with h | h
        · exact hwf y (hb2 y h)
        · exact hwf y h
      rw [List.take_length] at *
      have H1 := Lib.hid (fun W lo up (h : Sl W lo up 1 sa l.length ca (intCells l)) hu => ofs_any (w := W) h hu (by omega) hwf)
      have H2 := Lib.hid (fun W lo up A' c' (h : Sl W lo up 1 A' (l.length + l.length) c' (intCells (bs ++ l))) hu => ofs_any (w := W) h hu (by omega) hwb)
      rw [o1] at H2
      have H3 := Lib.hid (fun W lo up A' c' (h : Sl W lo up 2 A' (rOfs l).length c' (rCells (rOfs l))) hu => many_any (w := W) h hu (by have := rOfs_len l; omega) (rOfs_wf l))
      rw [o2] at H3
      have hF := rOfs_len l
      have HOA := Lib.hid hoa
      have HOB := Lib.hid hob
      have hbl : (bs ++ l).length = l.length + l.length := by rw [List.length_append, hb1]
      have HAB := Lib.hid (apart_or hab.out)
      generalize rOfs l = F at *
      generalize rSum (rAll l) = S at *
      clear hwf hnw hb1 hb2 o1 o2 hwb hoa hob hbl hbs hab h
      go_wp2_with fail
      refine (H1.out _ _ _ (Sl.of_own HOA.out) (Nat.le_refl _)).mono ?_
      rintro e w2 ⟨A2, c2, rfl, hown2, hb2⟩
      have bb2 := bb.trans (hb2.mono (by omega))
      have z2 := hb2.size
      have hob2 := own_below HOB.out hb2 (Nat.le_refl _)
      have sa2 := (Sl.of_own HOA.out).below hb2 (Nat.le_refl _)
      have sF := Sl.of_own hown2
      have SF := Lib.hid sF
      clear hb2 hown2 sF
      go_wp2_with (at_builtin; refine wpList_append_sl _ rfl (.tmp 77) (.tmp 78) _ rfl w1.heap.size 3 i0 _ 1 8 Try.underlying29 hi0 hz0 hz1 hz2 rfl (by omega) (.slice sb l.length cb) l.length _ rfl hob2 _ _ _ l.length ca _ rfl sa2 (intCells_one _) (l.length + l.length) rfl _ (intCells_append bs l).symm (by unfold maxLen; omega) (by omega) (by omega) ?_; intro A3 c3 w3 hown3 hg3)
      have bb3 := bb2.grown hg3 bb2.size (fun k hk => by have := (hob2.lt k hk).1; omega)
      have sF : Sl w3 wr.heap.size w2.heap.size 2 A2 F.length c2 (rCells F) := SF.out.grown hg3 (Nat.le_refl _) (fun g hg => by have := (HOB.out.lt g hg).2; omega)
      have z3 := hg3.size
      refine (H2.out _ _ _ _ _ (Sl.of_own hown3) (Nat.le_refl _)).mono ?_
      rintro e w4 ⟨A4, c4, rfl, hown4, hb4⟩
      have bb4 := bb3.trans (hb4.mono bb3.size)
      have sF := sF.below hb4 z3
      have sG := Sl.of_own hown4
      have z4 := hb4.size
      have SF := Lib.hid sF
      have SG := Lib.hid sG
      clear hb4 hown4 hown3 hg3 hob2 sa2 sF sG
      go_wp2_with fail
      refine (same_any SF.out SG.out (by omega) (by omega) true (by simp)).mono ?_
      rintro e w5 ⟨rfl, hb5⟩
      have bb5 := bb4.trans (hb5.mono bb4.size)
      have z5 := hb5.size
      go_wp2_with fail
      refine (H3.out _ _ _ _ _ (SF.out.below hb5 (by omega)) (by omega)).mono ?_
      rintro e w6 ⟨rfl, hb6⟩
      have bb6 := bb5.trans (hb6.mono bb5.size)
      clear hb5 hb6 SF SG
      go_wp2
      go_ret
      exact ⟨rfl, bb6⟩

set_option maxHeartbeats 4000000 in
theorem order_none {A : Option Addr} {c : Nat} {x : Int} {w : World} : Calls Try.prog 6 #[.slice A 0 c, .int .u8 x] w fun e w' => e = .returned (.bool true) ∧ Below w.heap.size w w' := by
  obtain ⟨i0, hi0, hz0, hz1, hz2⟩ := info_parts info3
  have H1 := Lib.hid (fun W A' c' lo up (h : Sl W lo up 1 A' 0 c' (intCells [])) hu => ofs_any (w := W) h hu (by omega) (fun y hy => by cases hy))
  have e1 : rOfs [] = [] := rfl
  rw [e1] at H1
  have H3 := Lib.hid (fun W lo up A' c' (h : Sl W lo up 2 A' 0 c' (rCells [])) hu => many_any (w := W) h hu (by omega) (fun y hy => by cases hy))
  rw [show rMany (rOf []) = 0 from by decide] at H3
  clear e1
  go_enter Try.func6, Try.ntmps6
  go_wp2_with fail
  refine (awake_any _).mono ?_
  rintro e w1 ⟨rfl, bb⟩
  have z1 := bb.size
  go_wp2_with fail
  go_loopg [6, 7, 9, 10] 0 (fun gh s6 s7 s9 s10 wr => gh = 0 ∧ s6 = .slice none 0 0 ∧ s7 = .slice none 0 0 ∧ s9 = .int .i64 0 ∧ s10 = .int .i64 0 ∧ w1 = wr)
  case atStart => exact ⟨rfl, rfl, rfl, rfl, rfl, rfl⟩
  case round =>
    obtain ⟨rfl, rfl, rfl, rfl, rfl, rfl⟩ := hrel
    go_wp2_with fail
    refine (H1.out _ _ _ 0 0 (Sl.empty _ _ _ _) (Nat.zero_le _)).mono ?_
    rintro e w2 ⟨A2, c2, rfl, hown2, hb2⟩
    have bb2 := bb.trans (hb2.mono z1)
    have sF := Sl.of_own hown2
    have SF := Lib.hid sF
    have z2 := hb2.size
    clear hb2 hown2 sF
    go_wp2_with (at_builtin; refine wpList_append_sl _ rfl (.tmp 77) (.tmp 78) _ rfl w1.heap.size 3 i0 _ 1 8 Try.underlying29 hi0 hz0 hz1 hz2 rfl (by omega) (.slice none 0 0) 0 [] rfl (World.ownsRow_nil _ _ _ _) 0 0 none 0 0 [] rfl (Sl.empty _ _ _ _) (by simp) 0 rfl [] rfl (by unfold maxLen; omega) (by omega) (by omega) ?_; intro A3 c3 w3 hown3 hg3)
    have bb3 := bb2.grown hg3 bb2.size (fun k hk => by simp [Value.ownBlock] at hk)
    have sF := SF.out.grown hg3 (Nat.le_refl _) (fun g hg => by simp [Value.ownBlock] at hg)
    have z3 := hg3.size
    refine (H1.out _ _ _ _ _ (Sl.of_own hown3) (Nat.le_refl _)).mono ?_
    rintro e w4 ⟨A4, c4, rfl, hown4, hb4⟩
    have bb4 := bb3.trans (hb4.mono bb3.size)
    have sF := sF.below hb4 z3
    have sG := Sl.of_own hown4
    have z4 := hb4.size
    have SF := Lib.hid sF
    have SG := Lib.hid sG
    clear hb4 hown4 hown3 hg3 sF sG
    go_wp2_with fail
    refine (same_any SF.out SG.out (by simp) (by simp) true (by simp)).mono ?_
    rintro e w5 ⟨rfl, hb5⟩
    have bb5 := bb4.trans (hb5.mono bb4.size)
    have z5 := hb5.size
    go_wp2_with fail
    refine (H3.out _ _ _ _ _ (SF.out.below hb5 (by omega)) (by omega)).mono ?_
    rintro e w6 ⟨rfl, hb6⟩
    have bb6 := bb5.trans (hb6.mono bb5.size)
    clear hb5 hb6 SF SG
    go_wp2
    go_ret
    exact ⟨rfl, bb6⟩

theorem order_any {A : Option Addr} {n c : Nat} {l : List Int} {x : Int} {w : World} (hr : Sl w 0 w.heap.size 1 A n c (uCells l)) (hl : ∀ y ∈ l, 0 ≤ y ∧ y ≤ 65535) (hx : 0 ≤ x ∧ x ≤ 255) :
    Calls Try.prog 6 #[.slice A n c, .int .u8 x] w fun e w' => e = .returned (.bool true) ∧ Below w.heap.size w w' := by
  by_cases h1 : 16 < n
  · exact order_long h1
  · by_cases h0 : 0 < n
    · have e1 := Int.emod_nonneg x (b := (n : Int)) (by omega)
      have e2 := Int.emod_lt_of_pos x (b := (n : Int)) (by omega)
      exact order_some hr (by omega) h0 hl hx (x % (n : Int)).toNat (by omega) (by omega)
    · obtain rfl : n = 0 := by omega
      exact order_none
end Go.Proofs.Ytgckedeaoglehaa
