/- The walk of diff.Join. -/
import Derived.Test.YtfeeincglijmjaaFC
import Derived.Test.YtfeeincglijmjaaGA
import Derived.Deep.RegionHeld3
namespace Go.Proofs.Ytfeeincglijmjaa
open Go.RowKit
set_option linter.unusedVariables false
set_option linter.unusedSimpArgs false
attribute [local go_sem ↓] Go.wp_at_zero Go.wp_at_succ

theorem cat_snoc (S : List (Int × List UInt8)) (k : Nat) : jCat S (k + 1) = jCat S k ++ (S.lookup (k : Int)).getD [] := by
  unfold jCat
  rw [List.range_succ, List.flatMap_append]
  simp
theorem lookup_mem {S : List (Int × List UInt8)} {k : Int} {p : List UInt8} (h : S.lookup k = some p) : (k, p) ∈ S := by
  induction S with
  | nil => cases h
  | cons x r ih =>
    obtain ⟨a, q⟩ := x
    by_cases e : k = a
    · subst e
      simp [List.lookup] at h
      subst h
      exact List.mem_cons_self ..
    · have : (k == a) = false := by simpa using e
      simp only [List.lookup, this] at h
      exact List.mem_cons_of_mem _ (ih h)
theorem cat_le {S : List (Int × List UInt8)} (h : ∀ p ∈ S, p.2.length ≤ 3000) : ∀ k, (jCat S k).length ≤ 3000 * k
  | 0 => by simp [jCat]
  | k + 1 => by
    rw [cat_snoc, List.length_append]
    have := cat_le h k
    have h2 : ((S.lookup (k : Int)).getD []).length ≤ 3000 := by
      cases hq : S.lookup (k : Int) with
      | none => simp
      | some p => exact h _ (lookup_mem hq)
    omega
theorem put_le {S : List (Int × List UInt8)} {k : Int} {q : List UInt8} (h : ∀ p ∈ S, p.2.length ≤ 3000) (hq : q.length ≤ 3000) : ∀ p ∈ jPut S k q, p.2.length ≤ 3000 := by
  unfold jPut
  split
  · exact h
  · intro p hp
    rw [List.mem_append, List.mem_singleton] at hp
    rcases hp with hp | rfl
    · exact h p hp
    · exact hq
theorem MIs.kept_own {w w' : World} {lo up b n : Nat} {S : List (Int × List UInt8)} {base n2 s : Nat} {e : TypeId} {v : Value} {xs : List Value} (h : MIs w lo up b n S) (ho : w.ownsRow base e s v n2 xs) (hg : w.grownBy w' v.ownBlock) (hup : up ≤ base) (hw : up ≤ w.heap.size) : MIs w' lo up b n S := by
  refine h.kept hg (fun e' => ?_) hw (fun g e' => .inr (Nat.le_trans hup (ho.lt g e').1))
  obtain ⟨D, ⟨es, clock, hb, _⟩, _⟩ := h
  rcases ho.2 with ⟨e1, _⟩ | ⟨g2, cap2, cur2, hv2, _, hh2, _⟩
  · rw [e1] at e'
    simp [Value.ownBlock] at e'
  · rw [hv2] at e'
    simp only [Value.ownBlock, Option.some.injEq] at e'
    subst e'
    rw [hb] at hh2
    cases hh2
theorem MIs.later {w w' : World} {lo up b n : Nat} {S : List (Int × List UInt8)} (h : MIs w lo up b n S) (hb : Below w.heap.size w w') (hw : up ≤ w.heap.size) : MIs w' lo up b n S :=
  h.kept (row := none) (grownBy_below hb (Nat.le_refl _)) (by simp) hw (fun g e => by cases e)
set_option maxHeartbeats 16000000 in
set_option maxRecDepth 100000 in
theorem diffjoin_any {lo up lo2 up2 : Nat} {A : Option Addr} {n c : Nat} {vs : List Value} {ps : List (List UInt8)} {w : World} (hv : Sl w lo2 up2 1 A n c vs) (hup2 : up2 ≤ w.heap.size) (hp : Ps w lo up vs ps) (hup : up ≤ w.heap.size) (hn : n ≤ 1000) (hl : ∀ p ∈ ps, p.length ≤ 3000) :
    Calls Try.prog 30 #[.slice A n c] w (RetBE w (jJoin ps).1 (jJoin ps).2) := by
  obtain ⟨j0, hj0, jz0, jz1, jz2⟩ := info_parts info5
  have hnv : n = vs.length := by have := hv.len; omega
  have hnp : n = ps.length := by rw [hnv, hp.1]
  have HV := Lib.hid hv
  have HP := Lib.hid hp
  have HL := Lib.hid hl
  have hmm := @run_makeMap Try.prog
  obtain ⟨J, hJ⟩ : ∃ J, J = jJoin ps := ⟨_, rfl⟩
  have HJ := Lib.hid hJ
  rw [← hJ]
  have Hnp := Lib.hid hnp
  have Hnv := Lib.hid hnv
  have hn' : (n : Int) ≤ 1000 := by omega
  clear hv hp hl hJ hnp hnv
  have m0 := MIs.made w lo up
  go_enter Try.func30, Try.ntmps30
  go_wp2_with fail
  go_loopg [5, 17] n (fun gh s5 s17 wr => ∃ (i nb : Nat) (S : List (Int × List UInt8)) (m : Int), gh = n - i ∧ i ≤ n ∧ s17 = .int .i64 i ∧ s5 = .int .i64 m ∧ 0 ≤ m ∧ m ≤ 4096 ∧ nb ≤ i ∧ MIs wr lo up w.heap.size nb S ∧ Below w.heap.size w wr ∧ Hid (jGo true ps [] 0 = jGo (decide (i = 0)) (ps.drop i) S m) ∧ Hid (∀ p ∈ S, p.2.length ≤ 3000))
  case atStart => exact ⟨0, 0, [], 0, rfl, Nat.zero_le _, rfl, rfl, Int.le_refl _, by omega, Nat.le_refl _, m0, (Below.refl _ _).alloc (Nat.le_refl _) _, Lib.hid rfl, Lib.hid (by intro p hp; cases hp)⟩
  case round =>
    clear m0 hmm
    obtain ⟨i, nb, S, m, hgh, hin, rfl, rfl, hm0, hm1, hnb, hM, bb, hgo, hS⟩ := hrel
    have HG := Lib.hid hgh
    clear hgh
    have hz := hM.lt
    by_cases h : i < n
    · have hiv : i < vs.length := by rw [← Hnv.out]; exact h
      have hip : i < ps.length := by rw [← Hnp.out]; exact h
      obtain ⟨b0, o0, rfl, hg1, hg2, hc⟩ := HV.out.at_ (by omega)
      have k1 : wr.cell? ⟨b0, o0 + i, none⟩ = some vs[i] := by
        rw [bb.cell (p := ⟨b0, o0 + i, none⟩) (by show b0 < _; omega), hc i hiv, List.getElem?_eq_getElem hiv]
      obtain ⟨A1, c1, ev, sl⟩ := HP.out.2 i vs[i] ps[i] (List.getElem?_eq_getElem hiv) (List.getElem?_eq_getElem hip)
      rw [ev] at k1
      have sl1 := sl.below bb hup
      have hlen : ps[i].length ≤ 3000 := HL.out _ (List.getElem_mem hip)
      have hgo2 := hgo.out
      rw [List.drop_eq_getElem_cons hip, jGo] at hgo2
      have HR := Lib.hid (read_any sl1 (by omega) (by omega : ps[i].length ≤ 1000000))
      generalize ps[i] = p at *
      have a1 := addr_add b0 o0 i
      have hi3 : (i : Int) < n := by omega
      clear ev sl hc hgo
      cases hrp : rPart p with
      | none =>
        rw [hrp] at hgo2 HR
        simp only at hgo2
        have hJe : J = ([], 190) := by rw [HJ.out]; unfold jJoin; rw [hgo2]
        clear hgo2 hrp
        subst hJe
        go_wp2_with fail
        refine HR.out.mono ?_
        rintro e w2 ⟨b2, rfl⟩
        have al := (Below.refl w2.heap.size w2).alloc (Nat.le_refl _) (.cells #[.int .i64 0, .int .i64 0, .slice none 0 0] 106)
        have hz2 := b2.size
        obtain ⟨v, hrun, -⟩ := ((hM.later b2 (by omega)).later al (by omega)).look_ok (k := 0) ⟨by omega, by omega⟩
        clear al
        go_wp2_with fail
        go_ret2
        exact ⟨none, 0, rfl, World.ownsRow_nil _ _ _ _, (bb.trans (b2.mono (by omega))).alloc (by omega) _⟩
      | some q =>
        obtain ⟨k, m2, q⟩ := q
        obtain ⟨hk, hm2, hm3, hkm, hql⟩ := rPart_bnd hrp
        rw [hrp] at hgo2 HR
        simp only at hgo2
        clear hrp
        have Hgo := Lib.hid hgo2
        have Hk := Lib.hid hk
        clear hgo2 hk
        go_wp2_with fail
        refine HR.out.mono ?_
        rintro e w2 ⟨b2, A2, c2, rfl, sl2⟩
        have hz2 := b2.size
        have al := (Below.refl w2.heap.size w2).alloc (Nat.le_refl _) (.cells #[.int .i64 k, .int .i64 m2, .slice A2 q.length c2] 106)
        have bl := Blk.new w2 106 #[.int .i64 k, .int .i64 m2, .slice A2 q.length c2] rfl
        have hM2 := (hM.later b2 (by omega)).later al (by omega)
        have sl3 := (sl2.below b2 (by omega)).below al (by omega)
        have bb3 := (bb.trans (b2.mono (by omega))).alloc (by omega) (.cells #[.int .i64 k, .int .i64 m2, .slice A2 q.length c2] 106)
        have hz3 : (w2.alloc (.cells #[.int .i64 k, .int .i64 m2, .slice A2 q.length c2] 106)).heap.size = w2.heap.size + 1 := by simp
        have hz4 : w2.heap.size + 1 ≤ (w2.alloc (.cells #[.int .i64 k, .int .i64 m2, .slice A2 q.length c2] 106)).heap.size := by omega
        clear hM sl1 HR al sl2 bb b2 hz3 k1
        obtain ⟨v, hrun, hvv⟩ := hM2.look_ok Hk.out
        have Hvv := Lib.hid hvv
        have ab1 := addr_add w2.heap.size 0 1
        have ab2 := addr_add w2.heap.size 0 2
        have HM2 := Lib.hid hM2
        have HSL3 := Lib.hid sl3
        have Hbb3 := Lib.hid bb3
        have Hbl := Lib.hid bl
        have Hz4 := Lib.hid hz4
        clear hvv hM2 sl3 bb3 bl hz4
        go_upto_region 8 with fail
        generalize w2.alloc (.cells #[.int .i64 k, .int .i64 m2, .slice A2 q.length c2] 106) = w3 at *
        have blr := Hbl.out.rules
        obtain ⟨kc, kf⟩ := blr
        clear hrun
        have HZ : Hid ((decide (i = 0) = false ∧ m2 ≠ m) ∨ ((decide (i = 0) = false → m2 = m) ∧ ((∃ p, S.lookup k = some p ∧ p ≠ q) ∨ ¬ (∃ p, S.lookup k = some p ∧ p ≠ q)))) := Lib.hid (by
          by_cases h1 : decide (i = 0) = false ∧ m2 ≠ m
          · exact .inl h1
          · exact .inr ⟨fun h2 => Classical.byContradiction fun h3 => h1 ⟨h2, h3⟩, Classical.em _⟩)
        obtain ⟨has, hhas⟩ : ∃ z, z = (S.lookup k).isSome := ⟨_, rfl⟩
        rw [← hhas]
        have Hhas := Lib.hid hhas
        clear hhas
        go_cut [55] (fun s55 wx => ∃ z : Bool, s55 = .bool z ∧ Hid (z = true ↔ ((decide (i = 0) = false ∧ m2 ≠ m) ∨ ∃ p, S.lookup k = some p ∧ p ≠ q)) ∧ w3 = wx)
        case first =>
          have hz := HZ.out
          rcases Nat.eq_zero_or_pos i with hi0 | hi0
          · have hi4 : ((0 : Int) < (i : Int)) = False := eq_false (by omega)
            have hi5 : decide ((0 : Int) < (i : Int)) = false := by simp; omega
            have hi6 : (0 < i) = False := eq_false (by omega)
            have hi7 : decide (0 < i) = false := by simp; omega
            have Hi0 := Lib.hid hi0
            clear hz hi0
            cases hlk : S.lookup k with
            | none =>
              obtain rfl : has = false := by rw [Hhas.out, hlk]; rfl
              have Hlk := Lib.hid hlk
              clear hlk
              go_wp2_with fail
              go_meet
              exact ⟨false, rfl, Lib.hid (by simp [Hi0.out, Hlk.out]), rfl⟩
            | some p' =>
              obtain ⟨A3, c3, rfl, sl5⟩ := Hvv.out p' hlk
              obtain rfl : has = true := by rw [Hhas.out, hlk]; rfl
              have HE := Lib.hid (equal_any sl5 HSL3.out)
              have Hlk := Lib.hid hlk
              clear hlk sl5
              go_wp2_with fail
              refine HE.out.mono ?_
              rintro e w4 ⟨rfl, rfl⟩
              have Hdq : Hid ((!decide (p' = q)) = true ↔ ∃ p, some p' = some p ∧ p ≠ q) := Lib.hid (by simp)
              generalize decide (p' = q) = dq at *
              go_wp2_with fail
              go_meet
              exact ⟨!dq, rfl, Lib.hid (by rw [Hdq.out]; simp [Hi0.out, Hlk.out]), rfl⟩
          · have hi4 : (0 : Int) < (i : Int) := by omega
            have hi5 : decide ((0 : Int) < (i : Int)) = true := by simp; omega
            have Hi0 : Hid (decide (i = 0) = false) := Lib.hid (by simp; omega)
            clear hz
            by_cases hmm : m2 = m
            · cases hlk : S.lookup k with
              | none =>
                obtain rfl : has = false := by rw [Hhas.out, hlk]; rfl
                have Hlk := Lib.hid hlk
                clear hlk
                have d1 : (m2 != m) = false := by simp [hmm]
                have Hmm := Lib.hid hmm
                clear hmm
                go_wp2_with fail
                go_meet
                exact ⟨false, rfl, Lib.hid (by simp [Hmm.out, Hlk.out]), rfl⟩
              | some p' =>
                obtain ⟨A3, c3, rfl, sl5⟩ := Hvv.out p' hlk
                obtain rfl : has = true := by rw [Hhas.out, hlk]; rfl
                have HE := Lib.hid (equal_any sl5 HSL3.out)
                have Hlk := Lib.hid hlk
                have d1 : (m2 != m) = false := by simp [hmm]
                have Hmm := Lib.hid hmm
                clear hlk sl5 hmm
                go_wp2_with fail
                refine HE.out.mono ?_
                rintro e w4 ⟨rfl, rfl⟩
                have Hdq : Hid ((!decide (p' = q)) = true ↔ ∃ p, some p' = some p ∧ p ≠ q) := Lib.hid (by simp)
                generalize decide (p' = q) = dq at *
                go_wp2_with fail
                go_meet
                exact ⟨!dq, rfl, Lib.hid (by rw [Hdq.out]; simp [Hmm.out, Hlk.out]), rfl⟩
            · have d1 : (m2 != m) = true := by simp [hmm]
              have Hmm := Lib.hid hmm
              clear hmm
              go_wp2_with fail
              go_meet
              exact ⟨true, rfl, Lib.hid (by simp [Hmm.out, Hi0.out]), rfl⟩
        case rest =>
          obtain ⟨z, rfl, hzz, rfl⟩ := hcut
          clear HZ Hvv
          cases z
          rotate_left
          · have hbad := hzz.out.1 rfl
            have hg2 := Hgo.out
            have hJe : J = ([], 190) := by
              rw [HJ.out]
              unfold jJoin
              rw [hg2]
              rcases hbad with h1 | h1
              · rw [if_pos h1]
              · by_cases h0 : decide (i = 0) = false ∧ m2 ≠ m
                · rw [if_pos h0]
                · rw [if_neg h0, if_pos h1]
            clear hbad hg2 hzz Hgo
            subst hJe
            go_wp2_with fail
            go_ret2
            exact ⟨none, 0, rfl, World.ownsRow_nil _ _ _ _, Hbb3.out⟩
          · have hgood : ¬ ((decide (i = 0) = false ∧ m2 ≠ m) ∨ ∃ p, S.lookup k = some p ∧ p ≠ q) := fun h => by have := hzz.out.2 h; cases this
            have hg2 := Hgo.out
            rw [if_neg (fun h => hgood (.inl h)), if_neg (fun h => hgood (.inr h))] at hg2
            have Hgo2 := Lib.hid hg2
            have hM3 : MIs w3.drew lo up w.heap.size nb S := HM2.out.kept (row := none) (grownBy_drew (grownBy_refl w3 none)) (by simp) (by have := Hz4.out; omega) (fun g e => by cases e)
            obtain ⟨w5, hupd, hM5, hg5⟩ := hM3.set Hk.out (by omega) HSL3.out.drew (fun p' hp' => Classical.byContradiction fun hne => hgood (.inr ⟨p', hp', hne⟩)) (by show up ≤ w3.heap.size; have := Hz4.out; omega) (.inr hup)
            have bl5 := (Hbl.out.drew).grown hg5 (by simp; omega)
            have blr5 := bl5.rules
            obtain ⟨kc5, kf5⟩ := blr5
            have HM5 := Lib.hid hM5
            have Hbb5 := Lib.hid (Hbb3.out.drew.grown hg5 (by show _ ≤ w3.heap.size; have := Hz4.out; omega) (fun k e => by cases e; exact Nat.le_refl _))
            clear hgood hg2 hzz Hgo hM3 hM5 hg5 bl5 HM2 HSL3 Hbb3
            go_upto_region 10 with fail
            go_region
            go_wp2_with fail
            go_roundg (n - (i + 1))
            case measure => have := HG.out; omega
            case rel => exact ⟨i + 1, nb + 1, _, m2, rfl, by omega, by go_num, rfl, by omega, hm3, by omega, HM5.out, Hbb5.out, Lib.hid Hgo2.out, Lib.hid (put_le hS.out (by omega))⟩
    · obtain rfl : i = n := by omega
      have hgo2 := hgo.out
      rw [List.drop_of_length_le (by rw [← Hnp.out]; exact Nat.le_refl _), jGo] at hgo2
      have hJ2 := HJ.out
      unfold jJoin at hJ2
      rw [hgo2] at hJ2
      simp only at hJ2
      clear hgo hgo2
      have hlen := fun (ty : TypeId) => hM.len ty
      by_cases hmz : m = 0
      · rw [if_pos (.inl hmz)] at hJ2
        subst hJ2
        subst hmz
        go_wp2_with fail
        go_ret2
        exact ⟨none, 0, rfl, World.ownsRow_nil _ _ _ _, bb⟩
      · have d1 : (m == 0) = false := by simpa using hmz
        by_cases hsz : (S.length : Int) = m
        rotate_left
        · rw [if_pos (.inr hsz)] at hJ2
          subst hJ2
          have d2 : ((S.length : Int) != m) = true := by simp [hsz]
          clear hsz hmz
          go_wp2_with fail
          go_ret2
          exact ⟨none, 0, rfl, World.ownsRow_nil _ _ _ _, bb⟩
        · rw [if_neg (by omega)] at hJ2
          subst hJ2
          have d2 : ((S.length : Int) != m) = false := by simp [hsz]
          obtain ⟨mn, rfl⟩ : ∃ q : Nat, m = q := ⟨m.toNat, by omega⟩
          have hmn : mn ≤ 4096 := by omega
          clear hsz hmz hm0 hm1
          rw [Int.toNat_natCast]
          go_wp2_with fail
          go_loopg [12, 73] mn (fun gh s12 s73 wr => ∃ (k : Nat) (A : Option Addr) (c : Nat), gh = mn - k ∧ k ≤ mn ∧ s73 = .int .i64 k ∧ s12 = .slice A (jCat S k).length c ∧ wr.ownsRow w.heap.size 5 1 (.slice A (jCat S k).length c) (jCat S k).length (byteCells (jCat S k)) ∧ MIs wr lo up w.heap.size nb S ∧ Below w.heap.size w wr)
          case atStart => exact ⟨0, none, 0, rfl, Nat.zero_le _, rfl, rfl, World.ownsRow_nil _ _ _ _, hM, bb⟩
          case round =>
            clear hM bb hlen d1 d2 hz
            obtain ⟨k, A2, c2, hgh, hk, rfl, rfl, hown, hM, bb⟩ := hrel
            have HG2 := Lib.hid hgh
            clear hgh
            have hz := hM.lt
            by_cases h2 : k < mn
            · obtain ⟨A3, c3, hrun, sl3⟩ := hM.look (k := (k : Int)) ⟨by omega, by omega⟩
              have hcl := cat_le hS.out k
              have hcl2 := cat_le hS.out (k + 1)
              have Hcs := Lib.hid (cat_snoc S k)
              have Hcl : Hid ((jCat S k).length + ((S.lookup (k : Int)).getD []).length = (jCat S (k + 1)).length) := Lib.hid (by rw [cat_snoc, List.length_append])
              have HM := Lib.hid hM
              have Hbb := Lib.hid bb
              clear hM bb
              go_wp2_with (at_builtin; refine wpList_append_sl _ rfl (.tmp 76) (.tmp 79) 23 rfl w.heap.size 5 j0 _ 1 1 Try.underlying23 hj0 jz0 jz1 jz2 rfl (by omega) (.slice A2 (jCat S k).length c2) (jCat S k).length (byteCells (jCat S k)) rfl hown lo up A3 _ c3 (byteCells ((S.lookup (k : Int)).getD [])) rfl sl3 (byteCells_one _) (jCat S (k + 1)).length Hcl.out _ rfl (by unfold maxLen; omega) (by omega) (by omega) ?_; intro A6 c6 w6 hown6 hg6; have Hown6 := Lib.hid hown6; have Hg6 := Lib.hid hg6; clear hown6 hg6)
              go_roundg (mn - (k + 1))
              case measure => have := HG2.out; omega
              case rel =>
                refine ⟨k + 1, A6, c6, rfl, by omega, by go_num, rfl, ?_, HM.out.kept_own hown Hg6.out hup (by omega), Hbb.out.grown Hg6.out (by omega) (fun g e => (hown.lt g e).1)⟩
                have := Hown6.out
                rw [← byteCells_append, ← Hcs.out] at this
                exact this
            · obtain rfl : k = mn := by omega
              go_wp2_with fail
              go_ret2
              exact ⟨A2, c2, rfl, hown, bb⟩
end Go.Proofs.Ytfeeincglijmjaa
